/- Times: the reference's Time is the program's. The reference's functions that laws about trees reach, as contracts, each by its code. Sorting: what a stable sort by blocks and merges in place does, as plain lists. An array of numbers that is one's own, read and written in place. Sorting in place: ranges swapped, blocks turned round. Sorting in place: by insertion. Sorting in place: two rows merged, where one is of one. Sorting in place: two rows merged, where the other is of one. Sorting in place: two rows merged: turned round, and each half merged. Sorting in place: two rows merged: where they are cut, and the turn. The walk to the next region's end, as a lemma that a tactic of its own serves. Sorting in place: two rows merged; all of it. Sorting in place: all of it. Texts compared byte by byte: an order; the places of a list of keys, by them. The places of a record's keys, by the keys: tree.order. Trees with the keys of all records in order: tree.Sorted. Trees whose keys are in order: when they are the same. Trees that are the same: tree.identical, tree.Same. Trees that are the same: the reference's answer. The reference's places of keys: emendref3.Order. Trees with the keys of all records in order: the reference's answer. The law 'TreeSames', walked. Sorting, and what hangs on it, as contracts. strings.Builder, walked. Texts between quotes: the program's and the reference's answer. A text between quotes: the program's answer. Trees compared, and that this is an order. Trees whose keys are brought in order stay right and as great, and are then in order. Numbers compared: the program's answer. Trees compared: the program's answer. Numbers compared: the reference's answer. -/
import Derived.Test.YthgidapmofcloaaGreatDoorXn
set_option linter.unusedSimpArgs false
set_option linter.unusedVariables false
namespace Go.Dn
open Go
theorem cutC_true {c:UInt8}:∀{s d e:List UInt8},cutC c s=(d,e,true)→s=d++c::e
 | [],d,e,h=>by simp [cutC] at h
 | b::r,d,e,h=>by
  simp only [cutC] at h
  split at h
  ·rename_i hb
   rw [beq_iff_eq] at hb
   simp only [Prod.mk.injEq] at h
   obtain⟨rfl,rfl,_⟩:=h
   rw [hb];rfl
  ·simp only [Prod.mk.injEq] at h
   obtain⟨rfl,rfl,h3⟩:=h
   rw [List.cons_append,←cutC_true (s:=r) (d:=(cutC c r).1) (e:=(cutC c r).2.1) (by rw [←h3])]
theorem cutC_app {c:UInt8} {e:List UInt8}:∀{d:List UInt8},c ∉ d→cutC c (d++c::e)=(d,e,true)
 | [],_=>by simp [cutC]
 | b::r,h=>by
  have hb:(b == c)=false:=by
   cases hh:(b == c) with
   | false=>rfl
   | true=>rw [beq_iff_eq] at hh;exact absurd (by rw [hh];simp) h
  have ih:=cutC_app (c:=c) (e:=e) (d:=r) fun h'=>h (by simp [h'])
  simp only [List.cons_append,cutC,hb,ih,Bool.false_eq_true,if_false]
theorem hd_mem {c:UInt8} {l:List UInt8} (h:hd c l=true):c∈l:=by
 cases l with
 | nil=>cases h
 | cons b r =>
  have:b=c:=by simpa [hd] using h
  rw [this];simp
theorem not_mem_hd {c:UInt8} {l:List UInt8} (h:c ∉ l):hd c l=false:=by
 cases hh:hd c l with
 | false=>rfl
 | true=>exact absurd (hd_mem hh) h
theorem within_dig {a b:UInt8} {lo hi:Int} (h0:0≤lo) (h:withinB [a,b] lo hi=true):dig a=true∧dig b=true:=by
 unfold withinB at h
 rw [bA,decide_eq_true_eq,decide_eq_true_eq] at h
 exact (twoB_ok a b).1.1 (by omega)
theorem dig84:dig 84=false:=by decide
theorem date_ok {d:List UInt8} (h:dateB d=true):d.length=10∧(84:UInt8) ∉ d:=by
 have h10:d.length=10:=by
  unfold dateB at h
  rw [bA,decide_eq_true_eq] at h
  exact h.1
 refine⟨h10,?_⟩
 obtain⟨b0,b1,b2,b3,b4,b5,b6,b7,b8,b9,rfl⟩:=ten h10
 have e:dateB [b0,b1,b2,b3,b4,b5,b6,b7,b8,b9]=((b4 == 45) && ((b7 == 45) && (decide (0≤twoB [b0,b1]) && (decide (0≤twoB [b2,b3]) && (withinB [b5,b6] 1 12 && withinB [b8,b9] 1 (daysB (twoB [b0,b1]*100+twoB [b2,b3]) (twoB [b5,b6]))))))):=rfl
 rw [e] at h
 simp only [bA,beq_iff_eq,decide_eq_true_eq] at h
 obtain⟨rfl,rfl,h1,h2,h3,h4⟩:=h
 have g1:=(twoB_ok b0 b1).1.1 h1
 have g2:=(twoB_ok b2 b3).1.1 h2
 have g3:=within_dig (by decide) h3
 have g4:=within_dig (by decide) h4
 have n84:∀{b:UInt8},dig b=true→(84:UInt8)≠b:=fun hb e=>by rw [←e,dig84] at hb;cases hb
 simp only [List.mem_cons,List.not_mem_nil,or_false,not_or]
 exact⟨n84 g1.1,n84 g1.2,n84 g2.1,n84 g2.2,by decide,n84 g3.1,n84 g3.2,by decide,n84 g4.1,n84 g4.2⟩
theorem clock_ok {t:List UInt8} (h:clockB t=true):8≤t.length∧∀b∈t,b=58∨b=46∨dig b=true:=by
 have h8:8≤t.length:=by
  unfold clockB at h
  rw [bA,decide_eq_true_eq] at h
  exact h.1
 refine⟨h8,?_⟩
 match t,h8,h with
 | b0::b1::b2::b3::b4::b5::b6::b7::r,_,h =>
  have e:clockB (b0::b1::b2::b3::b4::b5::b6::b7::r)=(decide (8≤(b0::b1::b2::b3::b4::b5::b6::b7::r).length) && ((b2 == 58) && ((b5 == 58) && (withinB [b0,b1] 0 23 && (withinB [b3,b4] 0 59 && (withinB [b6,b7] 0 59 &&
   (decide ((b0::b1::b2::b3::b4::b5::b6::b7::r).length=8) || (hd 46 r && (decide (1≤(r.drop 1).length) && (decide ((r.drop 1).length≤9) && beqB (trimA tenD (r.drop 1)) [])))))))))):=rfl
  rw [e] at h
  simp only [bA,beq_iff_eq] at h
  obtain⟨_,rfl,rfl,h1,h2,h3,h4⟩:=h
  have g1:=within_dig (by decide) h1
  have g2:=within_dig (by decide) h2
  have g3:=within_dig (by decide) h3
  have hr:∀b∈r,b=58∨b=46∨dig b=true:=by
   intro b hb
   rw [Bool.or_eq_true,decide_eq_true_eq] at h4
   rcases h4 with h4 | h4
   ·have:r=[]:=nL (by simpa using h4)
    rw [this] at hb;simp at hb
   ·simp only [bA] at h4
    obtain⟨q1,_,_,q2⟩:=h4
    rw [beqB_iff,trimA_nil] at q2
    cases r with
    | nil=>simp at hb
    | cons c q =>
     have:c=46:=by simpa [hd] using q1
     rcases List.mem_cons.1 hb with rfl | hb
     ·exact .inr (.inl this)
     ·exact .inr (.inr (by rw [←tenD_dig];exact q2 b hb))
  intro b hb
  simp only [List.mem_cons] at hb
  rcases hb with rfl | rfl | rfl | rfl | rfl | rfl | rfl | rfl | hb
  ·exact .inr (.inr g1.1)
  ·exact .inr (.inr g1.2)
  ·exact .inl rfl
  ·exact .inr (.inr g2.1)
  ·exact .inr (.inr g2.2)
  ·exact .inl rfl
  ·exact .inr (.inr g3.1)
  ·exact .inr (.inr g3.2)
  ·exact hr b hb
theorem clock_no {t:List UInt8} (h:clockB t=true) {c:UInt8} (hc:¬(c=58∨c=46∨dig c=true)):c ∉ t:=fun hm=>hc ((clock_ok h).2 c hm)
theorem clock_zone {t:List UInt8} (h:clockB t=true):(zoneB t).1=t:=by
 have n90:(90:UInt8) ∉ t:=clock_no h (by decide)
 have n43:(43:UInt8) ∉ t:=clock_no h (by decide)
 have n45:(45:UInt8) ∉ t:=clock_no h (by decide)
 unfold zoneB
 rw [if_neg,if_pos]
 ·right
  exact⟨not_mem_hd fun hm=>n43 (List.mem_of_mem_drop hm),not_mem_hd fun hm=>n45 (List.mem_of_mem_drop hm)⟩
 ·rw [Bool.not_eq_true]
  exact not_mem_hd fun hm=>n90 (List.mem_reverse.1 hm)
theorem tl_at {c:UInt8} {t:List UInt8} (h:1≤t.length):tl c t=atB t (t.length-1) c:=by
 obtain⟨b,hb⟩:∃b,t[t.length-1]? = some b:=⟨_,gE (by omega)⟩
 rw [tl_last hb (by omega),atB_get hb]
theorem atB_drop (t:List UInt8) (a k:Nat) (c:UInt8):atB (t.drop a) k c=atB t (a+k) c:=by
 unfold atB;rw [List.drop_drop]
theorem tail_zone {t:List UInt8} (h8:8≤t.length):tailR t=clockB (zoneB t).1:=by
 by_cases hc:clockB t=true
 ·rw [clock_zone hc,hc];unfold tailR;rw [hc];rfl
 have hc':clockB t=false:=by simpa using hc
 have e1:atB (t.drop (t.length-6)) 3 58=atB t (t.length-3) 58:=by rw [atB_drop];congr 1;omega
 have e2:withinB (sub (t.drop (t.length-6)) 1 3) 0 23=(decide (digI t (t.length-5) 2 ≥ 0) && decide (digI t (t.length-5) 2≤23)):=by
  rw [digI_two]
  unfold sub withinB
  rw [List.drop_drop,show t.length-6+1=t.length-5 by omega]
 have e3:withinB ((t.drop (t.length-6)).drop 4) 0 59=(decide (digI t (t.length-2) 2 ≥ 0) && decide (digI t (t.length-2) 2≤59)):=by
  rw [digI_two]
  unfold withinB
  rw [List.drop_drop,show t.length-6+4=t.length-2 by omega,List.take_of_length_le (by rw [lD];omega)]
 unfold tailR zoneB
 rw [hc',Bool.false_or,tl_at (by omega),e1,e2,e3]
 by_cases hz:atB t (t.length-1) 90=true
 ·rw [if_pos hz,if_pos hz]
 rw [if_neg hz,if_neg hz]
 have short:t.length<14→clockB (t.take (t.length-6))=false:=fun h=>by
  cases hk:clockB (t.take (t.length-6)) with
  | false=>rfl
  | true =>
   have:=(clock_ok hk).1
   rw [lT] at this
   omega
 cases h43:atB t (t.length-6) 43 with
 | false =>
  cases h45:atB t (t.length-6) 45 with
  | false =>
   rw [if_pos (.inr ⟨rfl,rfl⟩)]
   simp only [Bool.or_self,Bool.false_and,Bool.and_false,hc']
  | true =>
   rw [if_neg (by rintro (h | ⟨_,h⟩);omega;cases h)]
   cases h58:atB t (t.length-3) 58 with
   | false =>
    rw [if_pos (.inl rfl)]
    simp only [Bool.false_and,Bool.and_false,hc']
   | true =>
    generalize decide (digI t (t.length-5) 2 ≥ 0)=x1
    generalize decide (digI t (t.length-5) 2≤23)=x2
    generalize decide (digI t (t.length-2) 2 ≥ 0)=x3
    generalize decide (digI t (t.length-2) 2≤59)=x4
    by_cases h14:14≤t.length
    ·rw [dT h14]
     cases x1<;>cases x2<;>cases x3<;>cases x4<;>simp [hc']
    ·rw [dF h14]
     have:=short (by omega)
     cases x1<;>cases x2<;>cases x3<;>cases x4<;>simp [hc',this]
 | true =>
  rw [if_neg (by rintro (h | ⟨h,_⟩);omega;cases h)]
  cases h58:atB t (t.length-3) 58 with
  | false =>
   rw [if_pos (.inl rfl)]
   simp only [Bool.false_and,Bool.and_false,hc']
  | true =>
   generalize decide (digI t (t.length-5) 2 ≥ 0)=x1
   generalize decide (digI t (t.length-5) 2≤23)=x2
   generalize decide (digI t (t.length-2) 2 ≥ 0)=x3
   generalize decide (digI t (t.length-2) 2≤59)=x4
   by_cases h14:14≤t.length
   ·rw [dT h14]
    cases x1<;>cases x2<;>cases x3<;>cases x4<;>simp [hc']
   ·rw [dF h14]
    have:=short (by omega)
    cases x1<;>cases x2<;>cases x3<;>cases x4<;>simp [hc',this]
theorem zone_drop {s:List UInt8} (h19:19≤s.length):(zoneB s).1=s.take 11++(zoneB (s.drop 11)).1:=by
 have hl:(s.drop 11).length=s.length-11:=lD
 have d6:(s.drop 11).drop ((s.drop 11).length-6)=s.drop (s.length-6):=by rw [List.drop_drop,hl];congr 1;omega
 have tk:∀k,k≤6→s.take (s.length-k)=s.take 11++(s.drop 11).take ((s.drop 11).length-k):=fun k hk=>by
  rw [hl,show s.length-k=11+(s.length-11-k) by omega,List.take_add]
 have al:s=s.take 11++s.drop 11:=(tkD 11 s).symm
 have a1:∀c,atB (s.drop 11) ((s.drop 11).length-6) c=atB s (s.length-6) c:=fun c=>by rw [atB_drop,hl];congr 1;omega
 have a2:tl 90 (s.drop 11)=tl 90 s:=by rw [tl_at (by omega),tl_at (by omega),atB_drop,hl];congr 1;omega
 unfold zoneB
 rw [a2,a1,a1,d6]
 by_cases hz:tl 90 s=true
 ·rw [if_pos hz,if_pos hz]
  exact tk 1 (by omega)
 rw [if_neg hz,if_neg hz]
 by_cases h1:atB s (s.length-6) 43=false∧atB s (s.length-6) 45=false
 ·rw [if_pos (.inr h1),if_pos (.inr h1)]
  exact al
 have n1:¬(s.length<6∨(atB s (s.length-6) 43=false∧atB s (s.length-6) 45=false)):=by rintro (h | h);omega;exact h1 h
 have n2:¬((s.drop 11).length<6∨(atB s (s.length-6) 43=false∧atB s (s.length-6) 45=false)):=by rintro (h | h);omega;exact h1 h
 rw [if_neg n1,if_neg n2]
 by_cases h2:atB (s.drop (s.length-6)) 3 58=false∨withinB (sub (s.drop (s.length-6)) 1 3) 0 23=false∨withinB ((s.drop (s.length-6)).drop 4) 0 59=false
 ·rw [if_pos h2,if_pos h2]
  exact al
 ·rw [if_neg h2,if_neg h2]
  exact tk 6 (by omega)
theorem timeR_eq (s:List UInt8):timeR s=timeB s:=by
 unfold timeR timeB
 congr 2
 by_cases h19:19≤s.length
 ·rw [dT h19,Bool.true_and,tail_zone (by rw [lD];omega),zone_drop h19]
  generalize (zoneB (s.drop 11)).1=z
  obtain⟨b,hb⟩:∃b,s[10]? = some b:=⟨_,gE (by omega)⟩
  have hl10:(s.take 10).length=10:=by rw [lT];omega
  have h11:s.take 11=s.take 10++[b]:=by
   have:=List.take_add_one (l:=s) (i:=10)
   rw [hb] at this
   exact this
  rw [h11,aA,List.singleton_append,atB_get hb]
  generalize s.take 10=d at hl10 ⊢
  by_cases hok:(b == 84)=true∧dateB d=true
  ·have hb84:b=84:=by simpa using hok.1
   subst hb84
   rw [cutC_app (date_ok hok.2).2]
   rfl
  ·have hL:((b == 84) && (dateB d && clockB z))=false:=by
    cases h1:(b == 84) with
    | false=>rfl
    | true =>
     cases h2:dateB d with
     | false=>rfl
     | true=>exact absurd ⟨h1,h2⟩ hok
   rw [hL]
   symm
   cases hq:cutC 84 (d++b::z) with
   | mk d' q =>
    obtain⟨c',ok⟩:=q
    cases ok with
    | false=>rfl
    | true =>
     simp only [Bool.true_and]
     have he:=cutC_true hq
     cases hd':dateB d' with
     | false=>rfl
     | true =>
      exfalso
      have hl':=(date_ok hd').1
      have:=List.append_inj he (by omega)
      obtain⟨e1,e2⟩:=this
      simp only [List.cons.injEq] at e2
      exact hok ⟨by rw [e2.1];rfl,by rw [e1];exact hd'⟩
 ·rw [dF h19,Bool.false_and]
  symm
  cases hq:cutC 84 (zoneB s).1 with
  | mk d' q =>
   obtain⟨c',ok⟩:=q
   cases ok with
   | false=>rfl
   | true =>
    simp only [Bool.true_and]
    have he:=congrArg List.length (cutC_true hq)
    have hz:=zoneB_le s
    rw [lA,lC] at he
    cases hd':dateB d' with
    | false=>rfl
    | true =>
     cases hc':clockB c' with
     | false=>rfl
     | true =>
      have h1:=(date_ok hd').1
      have h2:=(clock_ok hc').1
      omega
end Go.Dn

namespace Go.Proofs.YthgidapmofcloaaGreatDoor.Fn
open Go.ChangeShapes Go.WideShapes Go.ChangeAt Go.RowKit Go.Dn
theorem digitR (b:UInt8):PF A 147 [.int .u8 b.toNat] (.bool (dig b)) :=
 pf Tryz.func147 (by kernel_rfl) C1.F147_ok (s1 trivial) digitR_wp
theorem runR (s:List UInt8) (k:Nat) (hk:k≤s.length) (h:s.length<4611686018427387904):PF A 146 [.str s,.int .i64 k] (.int .i64 ((k+runB (s.drop k):Nat):Int)) :=
 pf Tryz.func146 (by kernel_rfl) C1.F146_ok (s2 trivial trivial) (runR_wp hm digitR hk h)
theorem digitsR (n:Nat) (h:n<9223372036854775808):PF A 178 [.int .i64 n] (.str (decB n)) :=
 pf Tryz.func178 (by kernel_rfl) C1.F178_ok (s1 trivial) (digits_wp hm h)
theorem decimalR (e:Int) (h1:-999999≤e) (h2:e≤999999):PF A 148 [.int .i64 e] (.str (itoaB e)) :=
 pf Tryz.func148 (by kernel_rfl) C1.F148_ok (s1 trivial) (decimal_wp hm digitsR h1 h2)
theorem splitR (s:List UInt8) (h:s.length<4611686018427387904):PF A 106 [.str s] (encSplit (splitB s)) :=
 pf Tryz.func106 (by kernel_rfl) C1.F106_ok (s1 trivial) (splitR_wp hm runR h)
theorem joinR (p:Parts3) (h:p.2.1.length≤1000):PF A 107 [encP p] (encJoin (joinB p)) :=
 pf Tryz.func107 (by kernel_rfl) C1.F107_ok (s1 ⟨trivial,trivial,trivial,trivial⟩) (joinR_wp hm digitR decimalR h)
theorem normalR (s:List UInt8) (h:s.length<4611686018427387904):PF A 61 [.str s] (encJoin (normB s)) :=
 pf Tryz.func61 (by kernel_rfl) C1.F61_ok (s1 trivial) (normalR_wp hm splitR joinR h)
theorem digs3 (s:List UInt8) (a n:Nat) (ha:a<4611686018427387904) (hn:n≤9) (h:s.length<4611686018427387904):PF A 111 [.str s,.int .i64 a,.int .i64 n] (.int .i64 (digI s a n)) :=
 pf Tryz.func111 (by kernel_rfl) C1.F111_ok (s3 trivial trivial trivial) (digs_wp hm ha hn h)
theorem date3 (s:List UInt8):PF A 109 [.str s] (.bool (dateB s)) :=
 pf Tryz.func109 (by kernel_rfl) C1.F109_ok (s1 trivial) (date3_wp hm digs3)
theorem clock3 (s:List UInt8) (h:s.length<4611686018427387904):PF A 110 [.str s] (.bool (clockB s)) :=
 pf Tryz.func110 (by kernel_rfl) C1.F110_ok (s1 trivial) (clock3_wp hm digs3 h)
theorem time3 (s:List UInt8) (h:s.length<4611686018427387904):PF A 63 [.str s] (.bool (timeB s)):=by
 rw [←timeR_eq]
 exact pf Tryz.func63 (by kernel_rfl) C1.F63_ok (s1 trivial) (time3_wp hm digs3 clock3 date3 h)
theorem charR (c:Int):PF A 179 [.int .i64 c] (.bool (charB c)) :=
 pf Tryz.func179 (by kernel_rfl) C1.F179_ok (s1 trivial) charR_wp
theorem oneR (s:List UInt8) (k:Nat) (hk:k<s.length) (h:s.length<4611686018427387904):PF A 149 [.str s,.int .i64 k] (encFirst (firstC (s.drop k))) :=
 pf Tryz.func149 (by kernel_rfl) C1.F149_ok (s2 trivial trivial) (one_wp hm charR hk h)
theorem runesR (s:List UInt8) (h:s.length<4294967281):A 108 [.str s] St.init fun r _=>RunesP s r :=
 AC_intro Tryz.checked.mixed Tryz.func108 (by kernel_rfl) C1.F108_ok (runes_wp hm oneR h)
theorem validR (s:List UInt8) (h:s.length<4294967281):PF A 62 [.str s] (.bool (validB s)) :=
 pf Tryz.func62 (by kernel_rfl) C1.F62_ok (s1 trivial) (validR_wp hm (runesR s h))
theorem shaped:∀t:PT,t.sok→PF A 33 [encT t] (.bool (formedB t)) :=
 indT fun t ih h=>pf Tryz.func33 (by kernel_rfl) C1.F33_ok (s1 (sta_T t)) (shaped_wp hm normalR validR time3 ih h)
theorem depth3:∀t:PT,t.n<4611686018427387904→PF A 29 [encT t] (.int .i64 t.dp) :=
 indT fun t ih h=>pf Tryz.func29 (by kernel_rfl) C1.F29_ok (s1 (sta_T t)) (depth3_wp hm (fun u hu=>ih u hu (by omega)) h)
theorem right3 (t:PT) (h:t.n<4611686018427387904) (hk:t.sok):PF A 27 [encT t] (.int .i64 (rightB t)) :=
 pf Tryz.func27 (by kernel_rfl) C1.F27_ok (s1 (sta_T t)) (right3_wp hm (depth3 t h) (size3 t 4097 (by omega)) (shaped t hk))
end Go.Proofs.YthgidapmofcloaaGreatDoor.Fn

namespace Go.Dn
section
variable {α:Type} (le:α→α→Prop)
abbrev Srt (l:List α):Prop:=l.Pairwise le
variable {le}
theorem srt_app {x y:List α}:Srt le (x++y)↔Srt le x∧Srt le y∧∀u∈x,∀v∈y,le u v:=List.pairwise_append
theorem ends_le (tr:∀{a b c:α},le a b→le b c→le a c) {x y:List α} (hx:Srt le x) (hy:Srt le y) (h:∀u v,x[x.length-1]? = some u→y[0]? = some v→le u v) (rf:∀a,le a a):∀u∈x,∀v∈y,le u v:=by
 intro u hu v hv
 obtain⟨i,hi,rfl⟩:=List.mem_iff_getElem.1 hu
 obtain⟨j,hj,rfl⟩:=List.mem_iff_getElem.1 hv
 have h1:le x[i] (x[x.length-1]'(by omega)):=by
  rcases Nat.lt_or_ge i (x.length-1) with q | q
  ·exact List.pairwise_iff_getElem.1 hx i (x.length-1) hi (by omega) q
  ·have:i=x.length-1:=by omega
   simp only [this];exact rf _
 have h2:le (y[0]'(by omega)) y[j]:=by
  rcases Nat.eq_zero_or_pos j with q | q
  ·simp only [q];exact rf _
  ·exact List.pairwise_iff_getElem.1 hy 0 j (by omega) hj q
 exact tr (tr h1 (h _ _ (gE (by omega)) (gE (by omega)))) h2
theorem merge_ok {A B C D Z1 Z2:List α} (h1:Srt le Z1) (h2:Srt le Z2) (p1:Z1.Perm (A++C)) (p2:Z2.Perm (B++D)) (hAB:∀u∈A,∀v∈B,le u v) (hAD:∀u∈A,∀v∈D,le u v) (hCB:∀u∈C,∀v∈B,le u v) (hCD:∀u∈C,∀v∈D,le u v) :
  Srt le (Z1++Z2)∧(Z1++Z2).Perm ((A++B)++(C++D)):=by
 refine⟨srt_app.2 ⟨h1,h2,fun u hu v hv=>?_⟩,?_⟩
 ·have hu:=p1.mem_iff.1 hu
  have hv:=p2.mem_iff.1 hv
  rcases List.mem_append.1 hu with hu | hu<;>rcases List.mem_append.1 hv with hv | hv
  ·exact hAB u hu v hv
  ·exact hAD u hu v hv
  ·exact hCB u hu v hv
  ·exact hCD u hu v hv
 ·refine (p1.append p2).trans ?_
  rw [aA,aA]
  refine List.Perm.append_left A ?_
  rw [←aA,←aA]
  exact List.Perm.append_right D List.perm_append_comm
def Blk (le:α→α→Prop) (n:Nat) (d:List α):Prop:=∀(i j:Nat) (hi:i<d.length) (hj:j<d.length),i<j→i / n=j / n→le d[i] d[j]
theorem Blk.nil {n:Nat}:Blk le n []:=fun i j hi=>by simp at hi
theorem Blk.srt {n:Nat} {d:List α} (h:Blk le n d) (hn:d.length≤n):Srt le d :=
 List.pairwise_iff_getElem.2 fun i j hi hj hij=>h i j hi hj hij (by rw [Nat.div_eq_of_lt (by omega),Nat.div_eq_of_lt (by omega)])
theorem Blk.take {n:Nat} {x y:List α} (h:Blk le n (x++y)):Blk le n x:=fun i j hi hj hij e=>by
 have:=h i j (by rw [lA];omega) (by rw [lA];omega) hij e
 rwa [List.getElem_append_left hi,List.getElem_append_left hj] at this
theorem Blk.drop {n:Nat} {x y:List α} (h:Blk le n (x++y)) (hn:0<n) (hx:x.length % n=0):Blk le n y:=fun i j hi hj hij e=>by
 have:=h (x.length+i) (x.length+j) (by rw [lA];omega) (by rw [lA];omega) (by omega) (by
  obtain⟨k,hk⟩:=Nat.dvd_of_mod_eq_zero hx
  rw [hk,Nat.mul_add_div hn,Nat.mul_add_div hn,e])
 rw [List.getElem_append_right (by omega),List.getElem_append_right (by omega)] at this
 simpa only [Nat.add_sub_cancel_left] using this
theorem Blk.app {n:Nat} {x y:List α} (h:Blk le n x) (hn:0<n) (hx:x.length % n=0) (hy:Blk le n y):Blk le n (x++y):=fun i j hi hj hij e=>by
 obtain⟨k,hk⟩:=Nat.dvd_of_mod_eq_zero hx
 rcases Nat.lt_or_ge j x.length with q | q
 ·rw [List.getElem_append_left (by omega),List.getElem_append_left q]
  exact h i j (by omega) q hij e
 ·rcases Nat.lt_or_ge i x.length with q' | q'
  ·exfalso
   have h1:i / n<k:=by rw [Nat.div_lt_iff_lt_mul hn,Nat.mul_comm];omega
   have h2:k≤j / n:=by rw [Nat.le_div_iff_mul_le hn,Nat.mul_comm];omega
   omega
  ·rw [List.getElem_append_right q',List.getElem_append_right q]
   rw [lA] at hi hj
   refine hy _ _ (by omega) (by omega) (by omega) ?_
   have e1:i=n*k+(i-x.length):=by omega
   have e2:j=n*k+(j-x.length):=by omega
   rw [e1,e2,Nat.mul_add_div hn,Nat.mul_add_div hn] at e
   omega
theorem Blk.of {n:Nat} {d:List α} (h:Srt le d):Blk le n d:=fun i j hi hj hij _=>List.pairwise_iff_getElem.1 h i j hi hj hij
end
end Go.Dn

namespace Go.Dn
open Go Go.RowKit
def ints (l:List Nat):List AV:=l.map fun (n:Nat)=>AV.int .i64 (n:Int)
theorem ints_len (l:List Nat):(ints l).length=l.length:=by simp [ints]
theorem ints_get {l:List Nat} {i n:Nat} (h:l[i]? = some n):(ints l)[i]? = some (.int .i64 (n:Int)):=by simp [ints,h]
theorem ints_el (l:List Nat):∀y∈ints l,El false 1 y:=fun y hy=>by
 simp only [ints,List.mem_map] at hy
 obtain⟨n,_,rfl⟩:=hy
 exact⟨rfl,rfl⟩
theorem ints_set (l:List Nat) (i n:Nat):(ints l).set i (.int .i64 (n:Int))=ints (l.set i n):=by simp [ints,List.map_set]
def ArS (S:St) (R:List Rs) (ty:TypeId) (t b:Nat) (l:List Nat):Prop:=Hs S (R++[.bx b ty ((ints l).flatMap AV.cells++[]),.mk t t b])
abbrev slA (t n:Nat) (xs:List AV):AV:=.sl 1 ⟨some (t,t),0,some n,false⟩ xs
section
variable {S:St} {R:List Rs} {ty:TypeId} {t b:Nat} {l:List Nat}
theorem ArS.hi:(R++[Rs.bx b ty ((ints l).flatMap AV.cells++[]),Rs.mk t t b])[R.length]? = some (.bx b ty ((ints l).flatMap AV.cells++[])):=by simp
theorem ArS.hj:(R++[Rs.bx b ty ((ints l).flatMap AV.cells++[]),Rs.mk t t b])[R.length+1]? = some (.mk t t b):=by simp
theorem ArS.els (h:ArS S R ty t b l) {n:Nat} {xs:List AV} (hx:xs.length=l.length):elems S false 1 ⟨some (t,t),0,some n,false⟩ xs=some (ints l):=by
 have:=arr_els h ArS.hi ArS.hj (ints_el l) (off:=0) (cap:=some n) (nl:=false) (xs:=xs) (by rw [ints_len];omega)
 rw [List.drop_zero,hx,List.take_of_length_le (by rw [ints_len];omega)] at this
 exact this
theorem ArS.st (h:ArS S R ty t b l) {gt:GT} {d:Option Nat} {env:Env} {a x:DOpd} {n:Nat} {xs:List AV} {k v:Nat} (hx:xs.length=l.length) (ha:loc env a=some (.el 1 ⟨some (t,t),0,some n,false⟩ xs k 0)) (hv:opd env x=some (.int .i64 (v:Int))) (hk:k<l.length) :
  ∃S',stepO gt d env S (.st 1 a x)=.done (putV d .undef env) S'∧ArS S' R ty t b (l.set k v):=by
 obtain⟨S',h1,h2⟩:=arr_st h R.length ArS.hi ArS.hj (fun y hy=>(ints_el l y hy).1) (gt:=gt) (d:=d) (env:=env) (a:=a) (x:=x) (xs:=xs) (so:=0) (k:=k) (off:=0) (sz:=1) (cap:=some n) (nl:=false) (v:=.int .i64 (v:Int)) (v':=.int .i64 (v:Int)) ha hv rfl (by omega) (by rw [ints_len];omega) (Nat.le_refl 1) (by
  have hc:(ints l)[0+k]'(by rw [ints_len];omega)=.int .i64 ((l[k]:Nat):Int):=by simp [ints]
  rw [hc];rfl)
 refine⟨S',h1,?_⟩
 rw [Nat.zero_add,ints_set] at h2
 unfold ArS
 simpa using h2
end
theorem st_runPD {C:CallT} {gt:GT} {d:Option Nat} {op:DOp} {gd:Option (Nat×Bool)} {l:Option Nat} {env env':Env} {S:St} {P:St→Prop} {K:Env→St→Prop} {Q:Ex→Env→St→Prop} (h:∃S',stepO gt d env S op=.done env' S'∧P S') (hg:Gd env gd) (h0:isLoc op=false) (h1:conform l env op=true) (k:∀S',P S'→K env' S'):afterS C d env S K Q (stepD gt (⟨d,op,gd⟩,l) env S):=by
 obtain⟨S',h2,h3⟩:=h
 exact st_anyD hg h0 h1 h2 (k S' h3)
theorem set_mid {α:Type} {P Q:List α} {x y:α} {n:Nat} (h:n=P.length):(P++(x::Q)).set n y=P++(y::Q):=by
 subst h
 rw [List.set_append_right _ _ (Nat.le_refl _),Nat.sub_self];rfl
theorem get_mid {α:Type} {P Q:List α} {x:α} {n:Nat} (h:n=P.length):(P++(x::Q))[n]? = some x:=by
 subst h
 rw [List.getElem?_append_right (Nat.le_refl _),Nat.sub_self];rfl
end Go.Dn

namespace Go.Dn
open Go Go.Proofs.C1
set_option maxRecDepth 100000
attribute [local irreducible] afterS keepE
section
variable {gt:GT} {C:CallT} {R:List Rs} {ty:TypeId} {t b:Nat}
def SwapC (C:CallT) (R:List Rs) (ty:TypeId) (t b:Nat) (g:AV):Prop :=
 ∀(S:St) (xs:List AV) (P X M Y Q:List Nat) (a c n:Nat),a=P.length→c=P.length+X.length+M.length→n=X.length→xs.length=(P++(X++(M++(Y++Q)))).length→(P++(X++(M++(Y++Q)))).length<4611686018427387904→X.length=Y.length→ArS S R ty t b (P++(X++(M++(Y++Q)))) →
  C 218 [slA t xs.length xs,.int .i64 a,.int .i64 c,.int .i64 n,g] S fun r S'=>r=.ret (.tup [])∧ArS S' R ty t b (P++(Y++(M++(X++Q))))
def RotC (C:CallT) (R:List Rs) (ty:TypeId) (t b:Nat) (g:AV):Prop :=
 ∀(S:St) (xs:List AV) (P X Y Q:List Nat) (a m c:Nat),a=P.length→m=P.length+X.length→c=P.length+X.length+Y.length→X≠[]→Y≠[]→xs.length=(P++(X++(Y++Q))).length→(P++(X++(Y++Q))).length<2305843009213693952→ArS S R ty t b (P++(X++(Y++Q))) →
  C 201 [slA t xs.length xs,.int .i64 a,.int .i64 m,.int .i64 c,g] S fun r S'=>r=.ret (.tup [])∧ArS S' R ty t b (P++(Y++(X++Q)))
abbrev E_sw (t:Nat) (xs:List AV) (a c n i:Nat):Env:=[(0,.val (slA t xs.length xs)),(1,.val (.int .i64 a)),(2,.val (.int .i64 c)),(3,.val (.int .i64 n)),(10,.val (.int .i64 i))]
set_option maxHeartbeats 4000000 in
theorem swap_wp (hm:MonoC C) {S:St} {xs:List AV} {P X M Y Q:List Nat} {g:AV} (hx:xs.length=(P++(X++(M++(Y++Q)))).length) (hl:(P++(X++(M++(Y++Q)))).length<4611686018427387904) (hxy:X.length=Y.length) (hA:ArS S R ty t b (P++(X++(M++(Y++Q))))) :
  wpF gt C F218 [slA t xs.length xs,.int .i64 P.length,.int .i64 ((P.length+X.length+M.length:Nat):Int),.int .i64 X.length,g] S fun r S'=>r=.ret (.tup [])∧ArS S' R ty t b (P++(Y++(M++(X++Q)))):=by
 have hlen:(P++(X++(M++(Y++Q)))).length=P.length+(X.length+(M.length+(Y.length+Q.length))):=by simp only [lA]
 rw [hlen] at hx hl
 refine⟨rfl,?_⟩
 refine goW ?_
 refine loop_rule hm (α:=Nat×List Nat×List Nat×List Nat×List Nat) (fun a env S'=>env=E_sw t xs P.length (P.length+X.length+M.length) X.length a.1∧a.1+a.2.2.1.length=X.length∧a.2.1.length=P.length+a.1∧a.2.2.1.length=a.2.2.2.2.length∧a.2.1.length+a.2.2.1.length+a.2.2.2.1.length=P.length+X.length+M.length+a.1 ∧
   ArS S' R ty t b (a.2.1++(a.2.2.1++(a.2.2.2.1++(a.2.2.2.2++Q))))∧P++(Y++(M++(X++Q)))=a.2.1++(a.2.2.2.2++(a.2.2.2.1++(a.2.2.1++Q)))) (fun a=>X.length-a.1) ?_ (a:=(0,P,X,M,Y)) ⟨rfl,by simp,by simp,hxy,by simp,hA,rfl⟩
 rintro⟨i,Pi,Xi,Mi,Yi⟩ env S' ⟨rfl,h1,h2,h3,h4,hA,hT⟩
 simp only at h1 h2 h3 h4 hA hT
 refine goW ?_
 by_cases hc:(i:Int)<(X.length:Nat)
 ·rw [dT hc]
  match Xi,Yi,h1,h3,h4,hA,hT with
  | [],_,h1,_,_,_,_=>simp at h1;omega
  | _::_,[],_,h3,_,_,_=>simp at h3
  | x::Xr,y::Yr,h1,h3,h4,hA,hT =>
  simp only [lC] at h1 h3 h4
  have hla:(Pi++((x::Xr)++(Mi++((y::Yr)++Q)))).length=xs.length:=by simp only [lA,lC];omega
  have g1:(Pi++((x::Xr)++(Mi++((y::Yr)++Q))))[P.length+i]? = some x:=get_mid (by omega)
  have g2:(Pi++((x::Xr)++(Mi++((y::Yr)++Q))))[P.length+X.length+M.length+i]? = some y:=by
   rw [show Pi++((x::Xr)++(Mi++((y::Yr)++Q)))=(Pi++((x::Xr)++Mi))++(y::(Yr++Q)) by simp only [aA,List.cons_append]]
   exact get_mid (by simp only [lA,lC];omega)
  have s1:(Pi++((x::Xr)++(Mi++((y::Yr)++Q)))).set (P.length+i) y=Pi++(y::(Xr++(Mi++((y::Yr)++Q)))):=set_mid (by omega)
  have s2:(Pi++(y::(Xr++(Mi++((y::Yr)++Q))))).set (P.length+X.length+M.length+i) x=(Pi++[y])++(Xr++((Mi++[x])++(Yr++Q))):=by
   rw [show Pi++(y::(Xr++(Mi++((y::Yr)++Q))))=(Pi++(y::(Xr++Mi)))++(y::(Yr++Q)) by simp only [aA,List.cons_append],set_mid (by simp only [lA,lC];omega)]
   simp only [aA,List.cons_append,List.nil_append]
  generalize Pi++((x::Xr)++(Mi++((y::Yr)++Q)))=l at hA hla g1 g2 s1
  have k1:P.length+i<l.length:=by omega
  have k2:P.length+X.length+M.length+i<l.length:=by omega
  have w1:wr .i64 ((P.length:Int)+(i:Int))=((P.length+i:Nat):Int):=by rw [wr64 (by omega) (by omega)];omega
  have w2:wr .i64 (((P.length+X.length+M.length:Nat):Int)+(i:Int))=((P.length+X.length+M.length+i:Nat):Int):=by rw [wr64 (by omega) (by omega)];omega
  refine goW ?_
  rw [w1,w2]
  refine step_ruleDO rfl rfl (sx_ia (k:=P.length+X.length+M.length+i) rfl rfl (by omega)) (goW ?_)
  refine step_ruleDO rfl rfl (sx_ldEl (agg:=false) rfl (hA.els hla.symm) (ints_get g2) rfl) (goW ?_)
  rw [w1]
  refine step_ruleDO rfl rfl (sx_ia (k:=P.length+i) rfl rfl (by omega)) (goW ?_)
  refine step_ruleDO rfl rfl (sx_ldEl (agg:=false) rfl (hA.els hla.symm) (ints_get g1) rfl) (goW ?_)
  refine step_ruleDO rfl rfl (sx_ia (k:=P.length+i) rfl rfl (by omega)) (goW ?_)
  refine st_runPD (hA.st hla.symm rfl rfl k1) (by trivial) rfl rfl ?_
  intro S2 hA
  rw [s1] at hA
  refine goW ?_
  refine step_ruleDO rfl rfl (sx_ia (k:=P.length+X.length+M.length+i) rfl rfl (by omega)) (goW ?_)
  have hl2:(Pi++(y::(Xr++(Mi++((y::Yr)++Q))))).length=l.length:=by rw [←s1,List.length_set]
  refine st_runPD (hA.st (by omega) rfl rfl (by omega)) (by trivial) rfl rfl ?_
  intro S3 hA
  rw [s2] at hA
  refine goW ?_
  refine⟨(i+1,Pi++[y],Xr,Mi++[x],Yr),⟨?_,by simp only;omega,by simp only [lA,lC,List.length_nil];omega,by simp only;omega,by simp only [lA,lC,List.length_nil];omega,hA,?_⟩,by simp only;omega⟩
  ·rw [wrNat (by omega)]
  ·rw [hT];simp only [aA,List.cons_append,List.nil_append]
 ·rw [dF hc]
  have e1:Xi=[]:=nL (by omega)
  have e2:Yi=[]:=nL (by omega)
  subst e1;subst e2
  refine goW ?_
  refine⟨_,rfl,rfl,?_⟩
  rw [hT];exact hA
abbrev E_ro (t:Nat) (xs:List AV) (m:Nat) (g:AV) (i j:Nat):Env:=[(0,.val (slA t xs.length xs)),(2,.val (.int .i64 m)),(4,.val g),(10,.val (.int .i64 i)),(11,.val (.int .i64 j))]
set_option maxHeartbeats 4000000 in
theorem rot_wp (hm:MonoC C) {f:FuncId} {cs:List AV} (hsw:SwapC C R ty t b (.fn f [] cs)) {S:St} {xs:List AV} {P X Y Q:List Nat} (h1:X≠[]) (h2:Y≠[]) (hx:xs.length=(P++(X++(Y++Q))).length) (hl:(P++(X++(Y++Q))).length<2305843009213693952) (hA:ArS S R ty t b (P++(X++(Y++Q)))) :
  wpF gt C F201 [slA t xs.length xs,.int .i64 P.length,.int .i64 ((P.length+X.length:Nat):Int),.int .i64 ((P.length+X.length+Y.length:Nat):Int),.fn f [] cs] S fun r S'=>r=.ret (.tup [])∧ArS S' R ty t b (P++(Y++(X++Q))):=by
 have hlen:(P++(X++(Y++Q))).length=P.length+(X.length+(Y.length+Q.length)):=by simp only [lA]
 rw [hlen] at hx hl
 have p1:0<X.length:=List.length_pos_iff.2 h1
 have p2:0<Y.length:=List.length_pos_iff.2 h2
 refine⟨rfl,?_⟩
 refine goW ?_
 rw [show wr .i64 (((P.length+X.length:Nat):Int)-(P.length:Int))=(X.length:Int) by rw [wr64 (by omega) (by omega)];omega,show wr .i64 (((P.length+X.length+Y.length:Nat):Int)-((P.length+X.length:Nat):Int))=(Y.length:Int) by rw [wr64 (by omega) (by omega)];omega]
 refine loop_rule hm (α:=List Nat×List Nat×List Nat×List Nat) (fun a env S'=>env=E_ro t xs (P.length+X.length) (.fn f [] cs) a.2.1.length a.2.2.1.length∧0<a.2.1.length∧0<a.2.2.1.length∧a.1.length+a.2.1.length=P.length+X.length∧xs.length=(a.1++(a.2.1++(a.2.2.1++a.2.2.2))).length ∧
   ArS S' R ty t b (a.1++(a.2.1++(a.2.2.1++a.2.2.2)))∧P++(Y++(X++Q))=a.1++(a.2.2.1++(a.2.1++a.2.2.2))) (fun a=>a.2.1.length+a.2.2.1.length) ?_ (a:=(P,X,Y,Q)) ⟨rfl,p1,p2,rfl,by rw [hlen,hx],hA,rfl⟩
 rintro⟨P',L,U,Q'⟩ env S' ⟨rfl,l1,l2,l3,l4,hA,hT⟩
 simp only at l1 l2 l3 l4 hA hT
 have hlen':(P'++(L++(U++Q'))).length=P'.length+(L.length+(U.length+Q'.length)):=by simp only [lA]
 have w1:wr .i64 (((P.length+X.length:Nat):Int)-(L.length:Int))=((P'.length:Nat):Int):=by rw [wr64 (by omega) (by omega)];omega
 refine goW ?_
 by_cases hne:(L.length:Int)=U.length
 ·rw [neI_false hne]
  refine goW ?_
  rw [w1]
  refine call_rule (by rfl) (hm _ _ _ _ _ (hsw S' xs P' L [] U Q' P'.length (P.length+X.length) L.length rfl (by simp only [List.length_nil];omega) rfl l4 (by simp only [List.nil_append];omega) (by omega) hA) ?_)
  rintro r S2 ⟨rfl,hA⟩
  refine goW ?_
  refine⟨_,rfl,rfl,?_⟩
  rw [hT];exact hA
 rw [neI_true hne]
 refine goW ?_
 by_cases hgt:(L.length:Int) > U.length
 ·rw [dT hgt]
  obtain⟨L1,L2,hL,e1,hLl⟩:∃L1 L2,L=L1++L2∧L1.length=U.length∧L1.length+L2.length=L.length:=⟨L.take U.length,L.drop U.length,(tkD _ _).symm,by rw [lT];omega,by rw [lT,lD];omega⟩
  have l5:xs.length=(P'++(L1++(L2++(U++Q')))).length:=by simp only [lA];omega
  rw [hL,aA] at hA hT
  refine goW ?_
  rw [w1]
  refine call_rule (by rfl) (hm _ _ _ _ _ (hsw S' xs P' L1 L2 U Q' P'.length (P.length+X.length) U.length rfl (by omega) (by omega) l5 (by rw [←l5];omega) e1 hA) ?_)
  rintro r S2 ⟨rfl,hA⟩
  refine goW ?_
  refine⟨(P'++U,L2,L1,Q'),⟨?_,by simp only;omega,by simp only;omega,by simp only [lA];omega,?_,?_,?_⟩,by simp only;omega⟩
  ·simp only [E_ro]
   rw [wr64 (by omega) (by omega),show (L.length:Int)-(U.length:Int)=(L2.length:Int) by omega,e1]
   try rfl
  ·simp only [lA];omega
  ·rw [aA];exact hA
  ·rw [hT];simp only [aA]
 ·rw [dF hgt]
  obtain⟨U1,U2,hU,e1,hUl⟩:∃U1 U2,U=U1++U2∧U2.length=L.length∧U1.length+U2.length=U.length:=⟨U.take (U.length-L.length),U.drop (U.length-L.length),(tkD _ _).symm,by rw [lD];omega,by rw [lT,lD];omega⟩
  have l5:xs.length=(P'++(L++(U1++(U2++Q')))).length:=by simp only [lA];omega
  rw [hU,aA] at hA hT
  refine goW ?_
  rw [w1,wr64 (n:=((P.length+X.length:Nat):Int)+(U.length:Int)) (by omega) (by omega),show wr .i64 (((P.length+X.length:Nat):Int)+(U.length:Int)-(L.length:Int))=((P.length+X.length+U1.length:Nat):Int) by rw [wr64 (by omega) (by omega)];omega]
  refine call_rule (by rfl) (hm _ _ _ _ _ (hsw S' xs P' L U1 U2 Q' P'.length (P.length+X.length+U1.length) L.length rfl (by omega) rfl l5 (by rw [←l5];omega) e1.symm hA) ?_)
  rintro r S2 ⟨rfl,hA⟩
  refine goW ?_
  refine⟨(P',U2,U1,L++Q'),⟨?_,by simp only;omega,by simp only;omega,by simp only;omega,?_,hA,?_⟩,by simp only;omega⟩
  ·simp only [E_ro]
   rw [wr64 (by omega) (by omega),show (U.length:Int)-(L.length:Int)=(U1.length:Int) by omega,e1]
   try rfl
  ·simp only [lA];omega
  ·rw [hT]
end

structure Cz (cz:Nat→Nat→Int):Prop where
 rf:∀a,0≤cz a a
 tr:∀{a b c},0≤cz b a→0≤cz c b→0≤cz c a
 asy:∀{a b},cz a b<0→0≤cz b a
def leZ (cz:Nat→Nat→Int) (a b:Nat):Prop:=0≤cz b a
def CmpC (C:CallT) (f:FuncId) (cs:List AV) (R:List Rs) (ty:TypeId) (t b n:Nat) (cz:Nat→Nat→Int):Prop :=
 ∀(S:St) (l:List Nat) (i j:Nat),ArS S R ty t b l→i<n→j<n→C f (.int .i64 i::.int .i64 j::cs) S fun r S'=>r=.ret (.int .i64 (cz i j))∧S'=S
section
variable {gt:GT} {C:CallT} {R:List Rs} {ty:TypeId} {t b:Nat}
def InsC (C:CallT) (R:List Rs) (ty:TypeId) (t b n:Nat) (g:AV) (cz:Nat→Nat→Int):Prop :=
 ∀(S:St) (xs:List AV) (P X Q:List Nat) (a c:Nat),a=P.length→c=P.length+X.length→(∀x∈X,x<n)→xs.length=(P++(X++Q)).length→(P++(X++Q)).length<2305843009213693952→ArS S R ty t b (P++(X++Q)) →
  C 180 [slA t xs.length xs,.int .i64 a,.int .i64 c,g] S fun r S'=>r=.ret (.tup [])∧∃Z,Z.Perm X∧Srt (leZ cz) Z∧ArS S' R ty t b (P++(Z++Q))
abbrev E_in (t:Nat) (xs:List AV) (a c:Nat) (g:AV) (i:Nat):Env:=[(0,.val (slA t xs.length xs)),(1,.val (.int .i64 a)),(2,.val (.int .i64 c)),(3,.val g),(8,.val (.int .i64 i))]
abbrev E_in2 (t:Nat) (xs:List AV) (a c:Nat) (g:AV) (i j:Nat):Env:=[(0,.val (slA t xs.length xs)),(1,.val (.int .i64 a)),(2,.val (.int .i64 c)),(3,.val g),(8,.val (.int .i64 i)),(9,.val (.int .i64 j))]
theorem srt_ins {cz:Nat→Nat→Int} (hz:Cz cz) {L U:List Nat} {x:Nat} (h:Srt (leZ cz) (L++U)) (h1:∀u∈U,cz x u<0) (h2:∀v,L[L.length-1]? = some v→0≤cz x v):Srt (leZ cz) (L++(x::U)):=by
 obtain⟨a,c,d⟩:=srt_app.1 h
 have hL:∀u∈L,leZ cz u x:=fun u hu=>by
  have:=ends_le (le:=leZ cz) (fun h h'=>hz.tr h h') (x:=L) (y:=[x]) a (List.pairwise_singleton _ _) (fun u v e1 e2=>by
   simp only [List.getElem?_cons_zero,oI] at e2
   subst e2
   exact h2 u e1) (fun a=>hz.rf a)
  exact this u hu x (by simp)
 refine srt_app.2 ⟨a,List.pairwise_cons.2 ⟨fun u hu=>hz.asy (h1 u hu),c⟩,fun u hu v hv=>?_⟩
 rcases List.mem_cons.1 hv with rfl | hv
 ·exact hL u hu
 ·exact d u hu v hv
set_option maxHeartbeats 8000000 in
theorem ins_wp (hm:MonoC C) {f:FuncId} {cs:List AV} {n:Nat} {cz:Nat→Nat→Int} (hz:Cz cz) (hc:CmpC C f cs R ty t b n cz) {S:St} {xs:List AV} {P X Q:List Nat} (hX:∀x∈X,x<n) (hx:xs.length=(P++(X++Q)).length) (hl:(P++(X++Q)).length<2305843009213693952) (hA:ArS S R ty t b (P++(X++Q))) :
  wpF gt C F180 [slA t xs.length xs,.int .i64 P.length,.int .i64 ((P.length+X.length:Nat):Int),.fn f [] cs] S fun r S'=>r=.ret (.tup [])∧∃Z,Z.Perm X∧Srt (leZ cz) Z∧ArS S' R ty t b (P++(Z++Q)):=by
 have hlen:(P++(X++Q)).length=P.length+(X.length+Q.length):=by simp only [lA]
 rw [hlen] at hx hl
 refine⟨rfl,?_⟩
 refine goW ?_
 rw [wrNat (by omega)]
 refine loop_rule hm (α:=List Nat×List Nat×Nat) (fun a env S'=>env=E_in t xs P.length (P.length+X.length) (.fn f [] cs) a.2.2∧(a.2.2=P.length+a.1.length∨(a.2.1=[]∧P.length+X.length≤a.2.2∧a.2.2≤P.length+X.length+1))∧(a.1++a.2.1).Perm X∧Srt (leZ cz) a.1∧ArS S' R ty t b (P++(a.1++(a.2.1++Q)))) (fun a=>P.length+X.length+1-a.2.2) ?_
  (a:=(X.take 1,X.drop 1,P.length+1)) ⟨rfl,?_,by rw [tkD],?_,by rw [←aA (X.take 1),tkD];exact hA⟩
 case refine_2 =>
  cases X with
  | nil=>right;exact⟨rfl,by simp,by simp⟩
  | cons x r=>left;simp
 case refine_3 =>
  cases X with
  | nil=>exact List.Pairwise.nil
  | cons x r=>exact List.pairwise_singleton _ _
 rintro⟨Z,W,i⟩ env S' ⟨rfl,hi,hp,hs,hA⟩
 simp only at hi hp hs hA
 have hpl:=hp.length_eq
 rw [lA] at hpl
 have hmem:∀x∈Z++W,x<n:=fun x hx=>hX x (hp.mem_iff.1 hx)
 refine goW ?_
 by_cases hc1:(i:Int)<((P.length+X.length:Nat):Int)
 ·rw [dT hc1]
  have hi':i=P.length+Z.length:=by
   rcases hi with h | ⟨h1,h2,h3⟩
   ·exact h
   ·omega
  cases W with
  | nil=>simp only [List.length_nil] at hpl;omega
  | cons x W' =>
  simp only [lC] at hpl
  have hxn:x<n:=hmem x (by simp)
  refine goW ?_
  refine loop_rule hm (α:=List Nat×List Nat) (fun a env S'=>env=E_in2 t xs P.length (P.length+X.length) (.fn f [] cs) i (P.length+a.1.length)∧a.1++a.2=Z∧(∀u∈a.2,cz x u<0)∧ArS S' R ty t b (P++(a.1++(x::(a.2++(W'++Q)))))) (fun a=>a.1.length) ?_ (a:=(Z,[])) ⟨by rw [hi'],by simp,fun u hu=>by simp at hu,by simpa using hA⟩
  rintro⟨L,U⟩ env S2 ⟨rfl,hLU,hU,hA⟩
  simp only at hLU hU hA
  have hzl:=congrArg List.length hLU
  rw [lA] at hzl
  have hxl:xs.length=(P++(L++(x::(U++(W'++Q))))).length:=by simp only [lA,lC];omega
  have done:(∀v,L[L.length-1]? = some v→0≤cz x v)→∃a:List Nat×List Nat×Nat,(E_in t xs P.length (P.length+X.length) (.fn f [] cs) (i+1)=E_in t xs P.length (P.length+X.length) (.fn f [] cs) a.2.2∧(a.2.2=P.length+a.1.length∨(a.2.1=[]∧P.length+X.length≤a.2.2∧a.2.2≤P.length+X.length+1))∧(a.1++a.2.1).Perm X∧Srt (leZ cz) a.1∧ArS S2 R ty t b (P++(a.1++(a.2.1++Q))))∧P.length+X.length+1-a.2.2<P.length+X.length+1-i:=fun h=>by
   refine⟨(L++(x::U),W',i+1),⟨rfl,.inl (by simp only [lA,lC];omega),?_,?_,?_⟩,by simp only;omega⟩
   ·refine List.Perm.trans ?_ hp
    simp only
    rw [←hLU,aA,aA,List.cons_append]
    exact List.Perm.append_left L (List.perm_middle.symm)
   ·exact srt_ins hz (by rw [hLU];exact hs) hU h
   ·simpa only [aA,List.cons_append] using hA
  refine goW ?_
  rcases List.eq_nil_or_concat L with hL | ⟨L',v,hL⟩
  ·subst hL
   rw [dF (show ¬((P.length+([]:List Nat).length:Nat):Int) > (P.length:Int) by simp)]
   have done:=done (fun v h=>by simp at h)
   refine goW ?_
   rw [wrNat (by omega)]
   exact done
  rw [List.concat_eq_append] at hL
  subst hL
  have hvl:(L'++[v]).length=L'.length+1:=by simp
  rw [hvl] at hzl
  have hvn:v<n:=hmem v (by rw [←hLU];simp)
  have hA0:=hA
  have done:=fun (h:0≤cz x v)=>done (fun v' h'=>by
   rw [hvl,Nat.add_sub_cancel,get_mid rfl] at h'
   cases h';exact h)
  have e1:P++((L'++[v])++(x::(U++(W'++Q))))=(P++L')++(v::(x::(U++(W'++Q)))):=by simp only [aA,List.cons_append,List.nil_append]
  have e2:P++((L'++[v])++(x::(U++(W'++Q))))=(P++(L'++[v]))++(x::(U++(W'++Q))):=by simp only [aA,List.cons_append,List.nil_append]
  have g1:(P++((L'++[v])++(x::(U++(W'++Q)))))[P.length+L'.length]? = some v:=by rw [e1];exact get_mid (by rw [lA])
  have g2:(P++((L'++[v])++(x::(U++(W'++Q)))))[P.length+L'.length+1]? = some x:=by rw [e2];exact get_mid (by simp only [lA,lC,List.length_nil];omega)
  have s1:(P++((L'++[v])++(x::(U++(W'++Q))))).set (P.length+L'.length+1) v=(P++L')++(v::(v::(U++(W'++Q)))):=by
   rw [e2,set_mid (by simp only [lA,lC,List.length_nil];omega)]
   simp only [aA,List.cons_append,List.nil_append]
  have s2:((P++L')++(v::(v::(U++(W'++Q))))).set (P.length+L'.length) x=P++(L'++(x::((v::U)++(W'++Q)))):=by
   rw [set_mid (by rw [lA])]
   simp only [aA,List.cons_append]
  have hls:((P++L')++(v::(v::(U++(W'++Q))))).length=xs.length:=by rw [←s1,List.length_set,hxl]
  generalize hgl:P++((L'++[v])++(x::(U++(W'++Q))))=l at hA g1 g2 s1 hxl
  rw [hvl]
  have k1:P.length+L'.length<l.length:=by omega
  have k2:P.length+L'.length+1<l.length:=by omega
  have w1:wr .i64 (((P.length+(L'.length+1):Nat):Int)-1)=((P.length+L'.length:Nat):Int):=by rw [wr64 (by omega) (by omega)];omega
  rw [dT (show ((P.length+(L'.length+1):Nat):Int) > (P.length:Int) by omega)]
  refine goW ?_
  refine st_anyD (by exact rfl) rfl rfl (sx_ia (k:=P.length+L'.length+1) rfl rfl (by omega)) (goW ?_)
  refine st_anyD (by exact rfl) rfl rfl (sx_ldEl (agg:=false) rfl (hA.els hxl) (ints_get g2) rfl) (goW ?_)
  rw [w1]
  refine st_anyD (by exact rfl) rfl rfl (sx_ia (k:=P.length+L'.length) rfl rfl (by omega)) (goW ?_)
  refine st_anyD (by exact rfl) rfl rfl (sx_ldEl (agg:=false) rfl (hA.els hxl) (ints_get g1) rfl) (goW ?_)
  refine call_ruleD (by rfl) (hm _ _ _ _ _ (hc S2 l x v hA hxn hvn) ?_)
  rintro r S3 ⟨rfl,rfl⟩
  refine goW ?_
  by_cases hlt:cz x v<0
  case neg =>
   rw [dF hlt]
   have done:=done (by omega)
   refine goW ?_
   rw [wrNat (by omega)]
   exact done
  rw [dT hlt]
  refine goW ?_
  rw [w1]
  refine step_ruleDO rfl rfl (sx_ia (k:=P.length+L'.length) rfl rfl (by omega)) (goW ?_)
  refine step_ruleDO rfl rfl (sx_ldEl (agg:=false) rfl (hA.els hxl) (ints_get g1) rfl) (goW ?_)
  refine step_ruleDO rfl rfl (sx_ia (k:=P.length+L'.length+1) rfl rfl (by omega)) (goW ?_)
  refine step_ruleDO rfl rfl (sx_ldEl (agg:=false) rfl (hA.els hxl) (ints_get g2) rfl) (goW ?_)
  refine step_ruleDO rfl rfl (sx_ia (k:=P.length+L'.length+1) rfl rfl (by omega)) (goW ?_)
  refine st_runPD (hA.st hxl rfl rfl k2) (by trivial) rfl rfl ?_
  intro S4 hA
  rw [s1] at hA
  refine goW ?_
  refine step_ruleDO rfl rfl (sx_ia (k:=P.length+L'.length) rfl rfl (by omega)) (goW ?_)
  refine st_runPD (hA.st hls.symm rfl rfl (by omega)) (by trivial) rfl rfl ?_
  intro S5 hA
  rw [s2] at hA
  refine goW ?_
  refine⟨(L',v::U),⟨?_,by rw [←hLU];simp,fun u hu=>?_,hA⟩,by simp only [hvl];omega⟩
  ·rw [w1]
  ·rcases List.mem_cons.1 hu with rfl | hu
   ·exact hlt
   ·exact hU u hu
 ·rw [dF hc1]
  have hW:W=[]:=by
   rcases hi with h | ⟨h1,_⟩
   ·exact nL (by omega)
   ·exact h1
  subst hW
  rw [List.append_nil] at hp
  refine goW ?_
  exact⟨_,rfl,rfl,Z,hp,hs,by simpa using hA⟩
end

theorem ltZ_le {cz:Nat→Nat→Int} (hz:Cz cz) {u y x:Nat} (h:leZ cz u y) (h1:cz y x<0):cz u x<0:=by
 rcases Int.lt_or_le (cz u x) 0 with q | q
 ·exact q
 ·have:0≤cz y x:=hz.tr (a:=x) (b:=u) (c:=y) q h
  omega
theorem srt_take_le {cz:Nat→Nat→Int} (hz:Cz cz) {Y:List Nat} (h:Srt (leZ cz) Y) {k:Nat} (hk:k<Y.length):∀u∈Y.take (k+1),leZ cz u Y[k]:=by
 intro u hu
 obtain⟨i,hi,rfl⟩:=List.mem_iff_getElem.1 hu
 rw [lT] at hi
 rw [List.getElem_take]
 rcases Nat.lt_or_ge i k with q | q
 ·exact List.pairwise_iff_getElem.1 h i k (by omega) hk q
 ·have:i=k:=by omega
  subst this;exact hz.rf _
theorem srt_drop_ge {cz:Nat→Nat→Int} (hz:Cz cz) {Y:List Nat} (h:Srt (leZ cz) Y) {k:Nat} (hk:k<Y.length):∀u∈Y.drop k,leZ cz Y[k] u:=by
 intro u hu
 obtain⟨i,hi,rfl⟩:=List.mem_iff_getElem.1 hu
 rw [lD] at hi
 rw [List.getElem_drop]
 rcases Nat.eq_zero_or_pos i with q | q
 ·subst q;exact hz.rf _
 ·exact List.pairwise_iff_getElem.1 h k (k+i) hk (by omega) (by omega)
theorem srt_put {cz:Nat→Nat→Int} {Y:List Nat} {x p:Nat} (h:Srt (leZ cz) Y) (h1:∀u∈Y.take p,leZ cz u x) (h2:∀u∈Y.drop p,leZ cz x u):Srt (leZ cz) (Y.take p++(x::Y.drop p)):=by
 rw [←tkD p Y] at h
 obtain⟨a,c,d⟩:=srt_app.1 h
 refine srt_app.2 ⟨a,List.pairwise_cons.2 ⟨h2,c⟩,fun u hu v hv=>?_⟩
 rcases List.mem_cons.1 hv with rfl | hv
 ·exact h1 u hu
 ·exact d u hu v hv
theorem midW {i j:Nat} (h:i+j<9223372036854775808):wr .i64 ((wr .u64 (wr .i64 ((i:Int)+(j:Int)))).fdiv (2 ^ (min (Int.toNat 1) (IntKind.bits .u64))))=(((i+j) / 2:Nat):Int):=by
 rw [wr64 (n:=(i:Int)+(j:Int)) (by omega) (by omega),wr_eq .u64,show IntKind.u64.wrap ((i:Int)+(j:Int))=((i+j:Nat):Int) by
  have:∀n:Int,IntKind.u64.wrap n=n % 18446744073709551616:=fun n=>by simp [IntKind.wrap,IntKind.bits,IntKind.signed]
  rw [this];omega]
 rw [show min (Int.toNat 1) (IntKind.bits .u64)=1 by decide,show ((2:Int) ^ 1)=2 by decide,Int.fdiv_eq_ediv_of_nonneg _ (by decide),wr64 (by omega) (by omega)]
 omega
section
variable {gt:GT} {C:CallT} {R:List Rs} {ty:TypeId} {t b:Nat}
def MrgC (C:CallT) (R:List Rs) (ty:TypeId) (t b n:Nat) (g:AV) (cz:Nat→Nat→Int) (k:Nat):Prop :=
 ∀(S:St) (xs:List AV) (P X Y Q:List Nat) (a m c:Nat),X.length+Y.length≤k→a=P.length→m=P.length+X.length→c=P.length+X.length+Y.length→X≠[]→Y≠[]→(∀x∈X++Y,x<n)→Srt (leZ cz) X→Srt (leZ cz) Y→xs.length=(P++(X++(Y++Q))).length→(P++(X++(Y++Q))).length<1152921504606846976→ArS S R ty t b (P++(X++(Y++Q))) →
  C 181 [slA t xs.length xs,.int .i64 a,.int .i64 m,.int .i64 c,g] S fun r S'=>r=.ret (.tup [])∧∃Z,Z.Perm (X++Y)∧Srt (leZ cz) Z∧ArS S' R ty t b (P++(Z++Q))
abbrev E_m1 (t:Nat) (xs:List AV) (a:Nat) (g:AV) (i j:Nat):Env:=[(0,.val (slA t xs.length xs)),(1,.val (.int .i64 a)),(4,.val g),(10,.val (.int .i64 i)),(11,.val (.int .i64 j))]
abbrev E_m1b (t:Nat) (xs:List AV) (i k:Nat):Env:=[(0,.val (slA t xs.length xs)),(10,.val (.int .i64 i)),(13,.val (.int .i64 k))]
set_option maxHeartbeats 8000000 in
theorem mrg1_wp (hm:MonoC C) {f:FuncId} {cs:List AV} {n:Nat} {cz:Nat→Nat→Int} (hz:Cz cz) (hc:CmpC C f cs R ty t b n cz) {S:St} {xs:List AV} {P Y Q:List Nat} {x:Nat} (hY:∀y∈Y,y<n) (hxn:x<n) (hs:Srt (leZ cz) Y) (hx:xs.length=(P++(x::(Y++Q))).length) (hl:(P++(x::(Y++Q))).length<1152921504606846976) (hA:ArS S R ty t b (P++(x::(Y++Q)))) :
  wpF gt C F181 [slA t xs.length xs,.int .i64 P.length,.int .i64 ((P.length+1:Nat):Int),.int .i64 ((P.length+1+Y.length:Nat):Int),.fn f [] cs] S fun r S'=>r=.ret (.tup [])∧∃Z,Z.Perm (x::Y)∧Srt (leZ cz) Z∧ArS S' R ty t b (P++(Z++Q)):=by
 have hlen:(P++(x::(Y++Q))).length=P.length+(Y.length+Q.length+1):=by simp only [lA,lC]
 rw [hlen] at hl
 refine⟨rfl,?_⟩
 refine goW ?_
 rw [show wr .i64 (((P.length+1:Nat):Int)-(P.length:Int))=1 by rw [wr64 (by omega) (by omega)];omega]
 refine goW ?_
 refine loop_rule hm (α:=Nat×Nat) (fun a env S'=>env=E_m1 t xs P.length (.fn f [] cs) (P.length+1+a.1) (P.length+1+a.2)∧a.1≤a.2∧a.2≤Y.length∧S'=S∧(∀u∈Y.take a.1,cz u x<0)∧(∀u∈Y.drop a.2,0≤cz u x)) (fun a=>a.2-a.1) ?_ (a:=(0,Y.length)) ⟨rfl,Nat.zero_le _,Nat.le_refl _,rfl,by simp,by simp⟩
 rintro⟨i,j⟩ env S' ⟨rfl,h1,h2,rfl,h3,h4⟩
 simp only at h1 h2 h3 h4
 refine goW ?_
 by_cases hij:((P.length+1+i:Nat):Int)<((P.length+1+j:Nat):Int)
 ·rw [dT hij]
  obtain⟨r,hr⟩:∃r,r=(i+j) / 2:=⟨_,rfl⟩
  have hri:i≤r:=by omega
  have hrj:r<j:=by omega
  have hrY:r<Y.length:=by omega
  have g0:(P++(x::(Y++Q)))[P.length]? = some x:=get_mid rfl
  have g1:(P++(x::(Y++Q)))[P.length+1+r]? = some Y[r]:=by
   rw [List.getElem?_append_right (by omega),show P.length+1+r-P.length=r+1 by omega,List.getElem?_cons_succ,List.getElem?_append_left hrY]
   exact gE hrY
  have hcall:=hc S' _ Y[r] x hA (hY _ (List.getElem_mem hrY)) hxn
  have t1:=srt_take_le hz hs hrY
  have t2:=srt_drop_ge hz hs hrY
  generalize Y[r]=y at g1 hcall t1 t2
  refine goW ?_
  rw [midW (by omega),show (P.length+1+i+(P.length+1+j)) / 2=P.length+1+r by omega]
  refine step_ruleDO rfl rfl (sx_ia (k:=P.length+1+r) rfl rfl (by omega)) (goW ?_)
  refine step_ruleDO rfl rfl (sx_ldEl (agg:=false) rfl (hA.els hx) (ints_get g1) rfl) (goW ?_)
  refine step_ruleDO rfl rfl (sx_ia (k:=P.length) rfl rfl (by omega)) (goW ?_)
  refine step_ruleDO rfl rfl (sx_ldEl (agg:=false) rfl (hA.els hx) (ints_get g0) rfl) (goW ?_)
  refine call_ruleD (by rfl) (hm _ _ _ _ _ hcall ?_)
  rintro r' S3 ⟨rfl,rfl⟩
  refine goW ?_
  by_cases hlt:cz y x<0
  ·rw [dT hlt]
   refine goW ?_
   refine⟨(r+1,j),⟨?_,by simp only;omega,h2,rfl,fun u hu=>ltZ_le hz (t1 u hu) hlt,h4⟩,by simp only;omega⟩
   rw [wrNat (by omega)]
   try rfl
  ·rw [dF hlt]
   refine goW ?_
   refine⟨(i,r),⟨rfl,hri,by simp only;omega,rfl,h3,fun u hu=>?_⟩,by simp only;omega⟩
   exact hz.tr (a:=x) (b:=y) (c:=u) (by omega) (t2 u hu)
 ·rw [dF hij]
  obtain rfl:i=j:=by omega
  clear h1 hij
  refine goW ?_
  refine loop_rule hm (α:=Nat) (fun r env S'=>env=E_m1b t xs (P.length+1+i) (P.length+r)∧r≤i∧ArS S' R ty t b (P++(Y.take r++(x::(Y.drop r++Q))))) (fun r=>i-r) ?_ (a:=0) ⟨rfl,Nat.zero_le _,by simpa using hA⟩
  rintro r env S2 ⟨rfl,hri,hA⟩
  have hxr:xs.length=(P++(Y.take r++(x::(Y.drop r++Q)))).length:=by rw [hx];simp only [lA,lC,lT,lD];omega
  refine goW ?_
  rw [show wr .i64 (((P.length+1+i:Nat):Int)-1)=((P.length+i:Nat):Int) by rw [wr64 (by omega) (by omega)];omega]
  by_cases hlt:((P.length+r:Nat):Int)<((P.length+i:Nat):Int)
  ·rw [dT hlt]
   have hrY:r<Y.length:=by omega
   have hd:Y.drop r=Y[r]::Y.drop (r+1):=dC hrY
   have htk:Y.take (r+1)=Y.take r++[Y[r]]:=tS hrY
   have hltk:(Y.take r).length=r:=by rw [lT];omega
   rw [hd] at hA hxr
   generalize Y[r]=y at hA hxr htk
   clear hd
   have g0:(P++(Y.take r++(x::((y::Y.drop (r+1))++Q))))[P.length+r]? = some x:=by rw [←aA];exact get_mid (by rw [lA];omega)
   have g1:(P++(Y.take r++(x::((y::Y.drop (r+1))++Q))))[P.length+r+1]? = some y:=by
    rw [show P++(Y.take r++(x::((y::Y.drop (r+1))++Q)))=(P++(Y.take r++[x]))++(y::(Y.drop (r+1)++Q)) by simp only [aA,List.cons_append,List.nil_append]]
    exact get_mid (by simp only [lA,lC,List.length_nil];omega)
   have s1:(P++(Y.take r++(x::((y::Y.drop (r+1))++Q)))).set (P.length+r) y=(P++Y.take r)++(y::((y::Y.drop (r+1))++Q)):=by rw [←aA];exact set_mid (by rw [lA];omega)
   have s2:((P++Y.take r)++(y::((y::Y.drop (r+1))++Q))).set (P.length+r+1) x=P++(Y.take (r+1)++(x::(Y.drop (r+1)++Q))):=by
    rw [show (P++Y.take r)++(y::((y::Y.drop (r+1))++Q))=(P++(Y.take r++[y]))++(y::(Y.drop (r+1)++Q)) by simp only [aA,List.cons_append,List.nil_append],set_mid (by simp only [lA,lC,List.length_nil];omega),htk]
    simp only [aA,List.cons_append,List.nil_append]
   have hl1:((P++Y.take r)++(y::((y::Y.drop (r+1))++Q))).length=xs.length:=by rw [←s1,List.length_set,hxr]
   generalize P++(Y.take r++(x::((y::Y.drop (r+1))++Q)))=l at hA g0 g1 s1 hxr
   refine goW ?_
   rw [wrNat (by omega)]
   refine step_ruleDO rfl rfl (sx_ia (k:=P.length+r+1) rfl rfl (by omega)) (goW ?_)
   refine step_ruleDO rfl rfl (sx_ldEl (agg:=false) rfl (hA.els hxr) (ints_get g1) rfl) (goW ?_)
   refine step_ruleDO rfl rfl (sx_ia (k:=P.length+r) rfl rfl (by omega)) (goW ?_)
   refine step_ruleDO rfl rfl (sx_ldEl (agg:=false) rfl (hA.els hxr) (ints_get g0) rfl) (goW ?_)
   refine step_ruleDO rfl rfl (sx_ia (k:=P.length+r) rfl rfl (by omega)) (goW ?_)
   refine st_runPD (hA.st hxr rfl rfl (by omega)) (by trivial) rfl rfl ?_
   intro S4 hA
   rw [s1] at hA
   refine goW ?_
   refine step_ruleDO rfl rfl (sx_ia (k:=P.length+r+1) rfl rfl (by omega)) (goW ?_)
   refine st_runPD (hA.st hl1.symm rfl rfl (by omega)) (by trivial) rfl rfl ?_
   intro S5 hA
   rw [s2] at hA
   refine goW ?_
   refine⟨r+1,⟨?_,by omega,hA⟩,by omega⟩
   rw [wrNat (by omega)]
   try rfl
  ·rw [dF hlt]
   obtain rfl:r=i:=by omega
   refine goW ?_
   refine⟨_,rfl,rfl,Y.take r++(x::Y.drop r),?_,srt_put hs (fun u hu=>hz.asy (h3 u hu)) (fun u hu=>h4 u hu),by simpa only [aA,List.cons_append] using hA⟩
   have:=List.perm_middle (a:=x) (l₁:=Y.take r) (l₂:=Y.drop r)
   rwa [tkD] at this
end

section
variable {gt:GT} {C:CallT} {R:List Rs} {ty:TypeId} {t b:Nat}
abbrev E_m2 (t:Nat) (xs:List AV) (m:Nat) (g:AV) (i j:Nat):Env:=[(0,.val (slA t xs.length xs)),(2,.val (.int .i64 m)),(4,.val g),(14,.val (.int .i64 i)),(15,.val (.int .i64 j))]
abbrev E_m2b (t:Nat) (xs:List AV) (i k:Nat):Env:=[(0,.val (slA t xs.length xs)),(14,.val (.int .i64 i)),(17,.val (.int .i64 k))]
set_option maxHeartbeats 8000000 in
theorem mrg2_wp (hm:MonoC C) {f:FuncId} {cs:List AV} {n:Nat} {cz:Nat→Nat→Int} (hz:Cz cz) (hc:CmpC C f cs R ty t b n cz) {S:St} {xs:List AV} {P Y Q:List Nat} {x:Nat} (hY:∀y∈Y,y<n) (hxn:x<n) (hs:Srt (leZ cz) Y) (h2:2≤Y.length) (hx:xs.length=(P++(Y++(x::Q))).length) (hl:(P++(Y++(x::Q))).length<1152921504606846976) (hA:ArS S R ty t b (P++(Y++(x::Q)))) :
  wpF gt C F181 [slA t xs.length xs,.int .i64 P.length,.int .i64 ((P.length+Y.length:Nat):Int),.int .i64 ((P.length+Y.length+1:Nat):Int),.fn f [] cs] S fun r S'=>r=.ret (.tup [])∧∃Z,Z.Perm (Y++[x])∧Srt (leZ cz) Z∧ArS S' R ty t b (P++(Z++Q)):=by
 have hlen:(P++(Y++(x::Q))).length=P.length+(Y.length+(Q.length+1)):=by simp only [lA,lC]
 rw [hlen] at hl
 refine⟨rfl,?_⟩
 refine goW ?_
 rw [show wr .i64 (((P.length+Y.length:Nat):Int)-(P.length:Int))=(Y.length:Int) by rw [wr64 (by omega) (by omega)];omega,eqI_false (show ¬(Y.length:Int)=1 by omega)]
 refine goW ?_
 rw [show wr .i64 (((P.length+Y.length+1:Nat):Int)-((P.length+Y.length:Nat):Int))=1 by rw [wr64 (by omega) (by omega)];omega]
 refine goW ?_
 refine loop_rule hm (α:=Nat×Nat) (fun a env S'=>env=E_m2 t xs (P.length+Y.length) (.fn f [] cs) (P.length+a.1) (P.length+a.2)∧a.1≤a.2∧a.2≤Y.length∧S'=S∧(∀u∈Y.take a.1,0≤cz x u)∧(∀u∈Y.drop a.2,cz x u<0)) (fun a=>a.2-a.1) ?_ (a:=(0,Y.length)) ⟨rfl,Nat.zero_le _,Nat.le_refl _,rfl,by simp,by simp⟩
 rintro⟨i,j⟩ env S' ⟨rfl,h1,h2',rfl,h3,h4⟩
 simp only at h1 h2' h3 h4
 refine goW ?_
 by_cases hij:((P.length+i:Nat):Int)<((P.length+j:Nat):Int)
 ·rw [dT hij]
  obtain⟨r,hr⟩:∃r,r=(i+j) / 2:=⟨_,rfl⟩
  have hri:i≤r:=by omega
  have hrj:r<j:=by omega
  have hrY:r<Y.length:=by omega
  have g0:(P++(Y++(x::Q)))[P.length+Y.length]? = some x:=by rw [←aA];exact get_mid (by rw [lA])
  have g1:(P++(Y++(x::Q)))[P.length+r]? = some Y[r]:=by
   rw [List.getElem?_append_right (by omega),show P.length+r-P.length=r by omega,List.getElem?_append_left hrY]
   exact gE hrY
  have hcall:=hc S' _ x Y[r] hA hxn (hY _ (List.getElem_mem hrY))
  have t1:=srt_take_le hz hs hrY
  have t2:=srt_drop_ge hz hs hrY
  generalize Y[r]=y at g1 hcall t1 t2
  refine goW ?_
  rw [midW (by omega),show (P.length+i+(P.length+j)) / 2=P.length+r by omega]
  refine step_ruleDO rfl rfl (sx_ia (k:=P.length+Y.length) rfl rfl (by omega)) (goW ?_)
  refine step_ruleDO rfl rfl (sx_ldEl (agg:=false) rfl (hA.els hx) (ints_get g0) rfl) (goW ?_)
  refine step_ruleDO rfl rfl (sx_ia (k:=P.length+r) rfl rfl (by omega)) (goW ?_)
  refine step_ruleDO rfl rfl (sx_ldEl (agg:=false) rfl (hA.els hx) (ints_get g1) rfl) (goW ?_)
  refine call_ruleD (by rfl) (hm _ _ _ _ _ hcall ?_)
  rintro r' S3 ⟨rfl,rfl⟩
  refine goW ?_
  by_cases hlt:cz x y<0
  ·rw [dT hlt]
   refine goW ?_
   refine⟨(i,r),⟨rfl,hri,by simp only;omega,rfl,h3,fun u hu=>?_⟩,by simp only;omega⟩
   rcases Int.lt_or_le (cz x u) 0 with q | q
   ·exact q
   ·have:0≤cz x y:=hz.tr (a:=y) (b:=u) (c:=x) (t2 u hu) q
    omega
  ·rw [dF hlt]
   refine goW ?_
   refine⟨(r+1,j),⟨?_,by simp only;omega,h2',rfl,fun u hu=>?_,h4⟩,by simp only;omega⟩
   ·rw [wrNat (by omega)]
    try rfl
   ·exact hz.tr (a:=u) (b:=y) (c:=x) (t1 u hu) (by omega)
 ·rw [dF hij]
  obtain rfl:i=j:=by omega
  clear h1 hij
  refine goW ?_
  refine loop_rule hm (α:=Nat) (fun r env S'=>env=E_m2b t xs (P.length+i) (P.length+r)∧i≤r∧r≤Y.length∧ArS S' R ty t b (P++(Y.take r++(x::(Y.drop r++Q))))) (fun r=>r) ?_ (a:=Y.length) ⟨rfl,h2',Nat.le_refl _,by simpa using hA⟩
  rintro r env S2 ⟨rfl,hri,hrY,hA⟩
  have hxr:xs.length=(P++(Y.take r++(x::(Y.drop r++Q)))).length:=by rw [hx];simp only [lA,lC,lT,lD];omega
  refine goW ?_
  by_cases hlt:((P.length+r:Nat):Int) > ((P.length+i:Nat):Int)
  ·rw [dT hlt]
   obtain⟨q,rfl⟩:∃q,r=q+1:=⟨r-1,by omega⟩
   have hqY:q<Y.length:=by omega
   have hd:Y.drop q=Y[q]::Y.drop (q+1):=dC hqY
   have htk:Y.take (q+1)=Y.take q++[Y[q]]:=tS hqY
   have hltk:(Y.take q).length=q:=by rw [lT];omega
   rw [htk] at hA hxr
   generalize Y[q]=y at hA hxr hd
   clear htk
   have g0:(P++((Y.take q++[y])++(x::(Y.drop (q+1)++Q))))[P.length+q+1]? = some x:=by
    rw [←aA];exact get_mid (by simp only [lA,lC,List.length_nil];omega)
   have g1:(P++((Y.take q++[y])++(x::(Y.drop (q+1)++Q))))[P.length+q]? = some y:=by
    rw [show P++((Y.take q++[y])++(x::(Y.drop (q+1)++Q)))=(P++Y.take q)++(y::(x::(Y.drop (q+1)++Q))) by simp only [aA,List.cons_append,List.nil_append]]
    exact get_mid (by rw [lA];omega)
   have s1:(P++((Y.take q++[y])++(x::(Y.drop (q+1)++Q)))).set (P.length+q+1) y=(P++Y.take q)++(y::(y::(Y.drop (q+1)++Q))):=by
    rw [←aA,set_mid (by simp only [lA,lC,List.length_nil];omega)]
    simp only [aA,List.cons_append,List.nil_append]
   have s2:((P++Y.take q)++(y::(y::(Y.drop (q+1)++Q)))).set (P.length+q) x=P++(Y.take q++(x::(Y.drop q++Q))):=by
    rw [set_mid (by rw [lA];omega),hd]
    simp only [aA,List.cons_append]
   have hl1:((P++Y.take q)++(y::(y::(Y.drop (q+1)++Q)))).length=xs.length:=by rw [←s1,List.length_set,hxr]
   generalize P++((Y.take q++[y])++(x::(Y.drop (q+1)++Q)))=l at hA g0 g1 s1 hxr
   have w1:wr .i64 (((P.length+(q+1):Nat):Int)-1)=((P.length+q:Nat):Int):=by rw [wr64 (by omega) (by omega)];omega
   refine goW ?_
   rw [w1]
   refine step_ruleDO rfl rfl (sx_ia (k:=P.length+q) rfl rfl (by omega)) (goW ?_)
   refine step_ruleDO rfl rfl (sx_ldEl (agg:=false) rfl (hA.els hxr) (ints_get g1) rfl) (goW ?_)
   refine step_ruleDO rfl rfl (sx_ia (k:=P.length+q+1) rfl rfl (by omega)) (goW ?_)
   refine step_ruleDO rfl rfl (sx_ldEl (agg:=false) rfl (hA.els hxr) (ints_get g0) rfl) (goW ?_)
   refine step_ruleDO rfl rfl (sx_ia (k:=P.length+q+1) rfl rfl (by omega)) (goW ?_)
   refine st_runPD (hA.st hxr rfl rfl (by omega)) (by trivial) rfl rfl ?_
   intro S4 hA
   rw [s1] at hA
   refine goW ?_
   refine step_ruleDO rfl rfl (sx_ia (k:=P.length+q) rfl rfl (by omega)) (goW ?_)
   refine st_runPD (hA.st hl1.symm rfl rfl (by omega)) (by trivial) rfl rfl ?_
   intro S5 hA
   rw [s2] at hA
   refine goW ?_
   refine⟨q,⟨?_,by omega,by omega,hA⟩,by omega⟩
   rw [w1]
  ·rw [dF hlt]
   obtain rfl:r=i:=by omega
   refine goW ?_
   refine⟨_,rfl,rfl,Y.take r++(x::Y.drop r),?_,srt_put hs (fun u hu=>h3 u hu) (fun u hu=>hz.asy (h4 u hu)),by simpa only [aA,List.cons_append] using hA⟩
   have:=List.perm_middle (a:=x) (l₁:=Y.take r) (l₂:=Y.drop r)
   rw [tkD] at this
   exact this.trans (List.perm_append_singleton x Y).symm
end

section
variable {gt:GT} {C:CallT} {R:List Rs} {ty:TypeId} {t b:Nat}
set_option maxHeartbeats 8000000 in
theorem mrgLast_wp (hm:MonoC C) {f:FuncId} {cs:List AV} {n k:Nat} {cz:Nat→Nat→Int} (ih:MrgC C R ty t b n (.fn f [] cs) cz k) {S:St} {xs:List AV} {P B D Q:List Nat} {mid e c:Nat} {z:Env} {G:St→Prop}
  (h1:mid=P.length) (h2:e=P.length+B.length) (h3:c=P.length+B.length+D.length) (hk:B≠[]→D≠[]→B.length+D.length≤k) (hn:∀x∈B++D,x<n) (hB:Srt (leZ cz) B) (hD:Srt (leZ cz) D)
  (hx:xs.length=(P++(B++(D++Q))).length) (hl:(P++(B++(D++Q))).length<1152921504606846976) (hA:ArS S R ty t b (P++(B++(D++Q))))
  (fin:∀S' Z,Z.Perm (B++D)→Srt (leZ cz) Z→ArS S' R ty t b (P++(Z++Q))→G S') :
  wpD gt C F181.body.rt.rt.rt.rt.rt.rt.rt.rt.rt.rt.rt ((0,.val (slA t xs.length xs))::(3,.val (.int .i64 c))::(4,.val (.fn f [] cs))::(18,.val (.int .i64 mid))::(24,.val (.int .i64 e))::z) S (bodyQ gt F181.res fun r S'=>r=.ret (.tup [])∧G S'):=by
 have triv:(B=[]∨D=[])→G S:=fun h=>fin S (B++D) (List.Perm.refl _) (by rcases h with rfl | rfl;exact hD;rw [List.append_nil];exact hB) (by rw [aA];exact hA)
 conv=>whnf
 refine goW ?_
 by_cases c1:(mid:Int)<(e:Int)
 ·rw [dT c1]
  refine goW ?_
  by_cases c2:(e:Int)<(c:Int)
  ·rw [dT c2]
   have b1:B≠[]:=fun h=>by rw [h] at h2;simp at h2;omega
   have b2:D≠[]:=fun h=>by rw [h] at h3;simp at h3;omega
   refine goW ?_
   refine call_rule (by rfl) (hm _ _ _ _ _ (ih S xs P B D Q mid e c (hk b1 b2) h1 h2 h3 b1 b2 hn hB hD hx hl hA) ?_)
   rintro r S2 ⟨rfl,Z,z1,z2,z3⟩
   refine goW ?_
   exact⟨_,rfl,rfl,fin S2 Z z1 z2 z3⟩
  ·rw [dF c2]
   have:D=[]:=nL (by omega)
   refine goW ?_
   exact⟨_,rfl,rfl,triv (.inr this)⟩
 ·rw [dF c1]
  have:B=[]:=nL (by omega)
  refine goW ?_
  exact⟨_,rfl,rfl,triv (.inl this)⟩
set_option maxHeartbeats 8000000 in
theorem mrgLast2_wp (hm:MonoC C) {f:FuncId} {cs:List AV} {n k:Nat} {cz:Nat→Nat→Int} (ih:MrgC C R ty t b n (.fn f [] cs) cz k) {S:St} {xs:List AV} {P B D Q:List Nat} {mid e c:Nat} {o1 o2:Ent} {z:Env} {G:St→Prop}
  (h1:mid=P.length) (h2:e=P.length+B.length) (h3:c=P.length+B.length+D.length) (hk:B≠[]→D≠[]→B.length+D.length≤k) (hn:∀x∈B++D,x<n) (hB:Srt (leZ cz) B) (hD:Srt (leZ cz) D)
  (hx:xs.length=(P++(B++(D++Q))).length) (hl:(P++(B++(D++Q))).length<1152921504606846976) (hA:ArS S R ty t b (P++(B++(D++Q))))
  (fin:∀S' Z,Z.Perm (B++D)→Srt (leZ cz) Z→ArS S' R ty t b (P++(Z++Q))→G S') :
  wpD gt C F181.body.rt.rt.rt.rt.rt.rt.rt.rt.rt.rt.rt ((0,.val (slA t xs.length xs))::(1,o1)::(3,.val (.int .i64 c))::(4,.val (.fn f [] cs))::(18,.val (.int .i64 mid))::(20,o2)::(24,.val (.int .i64 e))::z) S (bodyQ gt F181.res fun r S'=>r=.ret (.tup [])∧G S'):=by
 have triv:(B=[]∨D=[])→G S:=fun h=>fin S (B++D) (List.Perm.refl _) (by rcases h with rfl | rfl;exact hD;rw [List.append_nil];exact hB) (by rw [aA];exact hA)
 conv=>whnf
 refine goW ?_
 by_cases c1:(mid:Int)<(e:Int)
 ·rw [dT c1]
  refine goW ?_
  by_cases c2:(e:Int)<(c:Int)
  ·rw [dT c2]
   have b1:B≠[]:=fun h=>by rw [h] at h2;simp at h2;omega
   have b2:D≠[]:=fun h=>by rw [h] at h3;simp at h3;omega
   refine goW ?_
   refine call_rule (by rfl) (hm _ _ _ _ _ (ih S xs P B D Q mid e c (hk b1 b2) h1 h2 h3 b1 b2 hn hB hD hx hl hA) ?_)
   rintro r S2 ⟨rfl,Z,z1,z2,z3⟩
   refine goW ?_
   exact⟨_,rfl,rfl,fin S2 Z z1 z2 z3⟩
  ·rw [dF c2]
   have:D=[]:=nL (by omega)
   refine goW ?_
   exact⟨_,rfl,rfl,triv (.inr this)⟩
 ·rw [dF c1]
  have:B=[]:=nL (by omega)
  refine goW ?_
  exact⟨_,rfl,rfl,triv (.inl this)⟩
set_option maxHeartbeats 8000000 in
theorem mrgFirst_wp (hm:MonoC C) {f:FuncId} {cs:List AV} {n k:Nat} {cz:Nat→Nat→Int} (ih:MrgC C R ty t b n (.fn f [] cs) cz k) {S:St} {xs:List AV} {P A V B D Q:List Nat} {a mid s e c:Nat} {z:Env} {G:St→Prop}
  (h0:a=P.length) (h1:mid=P.length+A.length+V.length) (h2:s=P.length+A.length) (h3:e=mid+B.length) (h4:c=e+D.length) (hk1:A≠[]→V≠[]→A.length+V.length≤k) (hk2:B≠[]→D≠[]→B.length+D.length≤k)
  (hn:∀x∈(A++V)++(B++D),x<n) (sA:Srt (leZ cz) A) (sV:Srt (leZ cz) V) (sB:Srt (leZ cz) B) (sD:Srt (leZ cz) D)
  (hx:xs.length=(P++(A++(V++(B++(D++Q))))).length) (hl:(P++(A++(V++(B++(D++Q))))).length<1152921504606846976) (hA:ArS S R ty t b (P++(A++(V++(B++(D++Q))))))
  (fin:∀S' Z1 Z2,Z1.Perm (A++V)→Srt (leZ cz) Z1→Z2.Perm (B++D)→Srt (leZ cz) Z2→ArS S' R ty t b (P++((Z1++Z2)++Q))→G S') :
  wpD gt C F181.body.rt.rt.rt.rt.rt.rt.rt.rt.rt.rt ((0,.val (slA t xs.length xs))::(1,.val (.int .i64 a))::(3,.val (.int .i64 c))::(4,.val (.fn f [] cs))::(18,.val (.int .i64 mid))::(20,.val (.int .i64 s))::(24,.val (.int .i64 e))::z) S (bodyQ gt F181.res fun r S'=>r=.ret (.tup [])∧G S'):=by
 have hlen:(P++(A++(V++(B++(D++Q))))).length=P.length+(A.length+(V.length+(B.length+(D.length+Q.length)))):=by simp only [lA]
 have next:∀(S:St) (Z1:List Nat) (z:Env),Z1.Perm (A++V)→Srt (leZ cz) Z1→ArS S R ty t b (P++(Z1++(B++(D++Q))))→wpD gt C F181.body.rt.rt.rt.rt.rt.rt.rt.rt.rt.rt.rt ((0,.val (slA t xs.length xs))::(3,.val (.int .i64 c))::(4,.val (.fn f [] cs))::(18,.val (.int .i64 mid))::(24,.val (.int .i64 e))::z) S (bodyQ gt F181.res fun r S'=>r=.ret (.tup [])∧G S'):=fun S Z1 z p1 s1 hA=>by
  have zl:=p1.length_eq
  rw [lA] at zl
  refine mrgLast_wp (gt:=gt) hm ih (P:=P++Z1) (B:=B) (D:=D) (Q:=Q) (by rw [lA];omega) (by rw [lA];omega) (by rw [lA];omega) hk2 (fun x hx=>hn x (List.mem_append_right _ hx)) sB sD (by rw [hx];simp only [lA];omega) (by rw [hlen] at hl;simp only [lA];omega) (by rw [aA];exact hA) ?_
  intro S' Z2 p2 s2 hA2
  exact fin S' Z1 Z2 p1 s1 p2 s2 (by simpa only [aA] using hA2)
 have triv:(A=[]∨V=[])→∀(o1 o2:Ent) z,wpD gt C F181.body.rt.rt.rt.rt.rt.rt.rt.rt.rt.rt.rt ((0,.val (slA t xs.length xs))::(1,o1)::(3,.val (.int .i64 c))::(4,.val (.fn f [] cs))::(18,.val (.int .i64 mid))::(20,o2)::(24,.val (.int .i64 e))::z) S (bodyQ gt F181.res fun r S'=>r=.ret (.tup [])∧G S'):=fun h o1 o2 z =>
  mrgLast2_wp (gt:=gt) hm ih (P:=P++(A++V)) (B:=B) (D:=D) (Q:=Q) (by simp only [lA];omega) (by simp only [lA];omega) (by simp only [lA];omega) hk2 (fun x hx=>hn x (List.mem_append_right _ hx)) sB sD (by rw [hx];simp only [lA];omega) (by rw [hlen] at hl;simp only [lA];omega) (by simpa only [aA] using hA) fun S' Z2 p2 s2 hA2 =>
   fin S' (A++V) Z2 (List.Perm.refl _) (by rcases h with rfl | rfl;exact sV;rw [List.append_nil];exact sA) p2 s2 (by simpa only [aA] using hA2)
 conv=>whnf
 refine goW ?_
 by_cases c1:(a:Int)<(s:Int)
 ·rw [dT c1]
  refine goW ?_
  by_cases c2:(s:Int)<(mid:Int)
  ·rw [dT c2]
   have b1:A≠[]:=fun h=>by rw [h] at h2;simp at h2;omega
   have b2:V≠[]:=fun h=>by rw [h] at h1;simp at h1;omega
   refine goW ?_
   refine call_rule (by rfl) (hm _ _ _ _ _ (ih S xs P A V (B++(D++Q)) a s mid (hk1 b1 b2) h0 h2 h1 b1 b2 (fun x hx=>hn x (List.mem_append_left _ hx)) sA sV hx hl hA) ?_)
   rintro r S2 ⟨rfl,Z1,z1,z2,z3⟩
   have next:=next S2 Z1 [] z1 z2 z3
   refine goK ?_
   with_unfolding_all exact next
  ·rw [dF c2]
   have triv:=triv (.inr (nL (by omega)))
   refine goK ?_
   with_unfolding_all exact triv _ _ _
 ·rw [dF c1]
  have triv:=triv (.inl (nL (by omega)))
  refine goK ?_
  with_unfolding_all exact triv _ _ _
set_option maxHeartbeats 8000000 in
theorem mrgFirst2_wp (hm:MonoC C) {f:FuncId} {cs:List AV} {n k:Nat} {cz:Nat→Nat→Int} (ih:MrgC C R ty t b n (.fn f [] cs) cz k) {S:St} {xs:List AV} {P A V B D Q:List Nat} {a mid s e c:Nat} {o:Ent} {z:Env} {G:St→Prop}
  (h0:a=P.length) (h1:mid=P.length+A.length+V.length) (h2:s=P.length+A.length) (h3:e=mid+B.length) (h4:c=e+D.length) (hk1:A≠[]→V≠[]→A.length+V.length≤k) (hk2:B≠[]→D≠[]→B.length+D.length≤k)
  (hn:∀x∈(A++V)++(B++D),x<n) (sA:Srt (leZ cz) A) (sV:Srt (leZ cz) V) (sB:Srt (leZ cz) B) (sD:Srt (leZ cz) D)
  (hx:xs.length=(P++(A++(V++(B++(D++Q))))).length) (hl:(P++(A++(V++(B++(D++Q))))).length<1152921504606846976) (hA:ArS S R ty t b (P++(A++(V++(B++(D++Q))))))
  (fin:∀S' Z1 Z2,Z1.Perm (A++V)→Srt (leZ cz) Z1→Z2.Perm (B++D)→Srt (leZ cz) Z2→ArS S' R ty t b (P++((Z1++Z2)++Q))→G S') :
  wpD gt C F181.body.rt.rt.rt.rt.rt.rt.rt.rt.rt.rt ((0,.val (slA t xs.length xs))::(1,.val (.int .i64 a))::(2,o)::(3,.val (.int .i64 c))::(4,.val (.fn f [] cs))::(18,.val (.int .i64 mid))::(20,.val (.int .i64 s))::(24,.val (.int .i64 e))::z) S (bodyQ gt F181.res fun r S'=>r=.ret (.tup [])∧G S'):=by
 have hlen:(P++(A++(V++(B++(D++Q))))).length=P.length+(A.length+(V.length+(B.length+(D.length+Q.length)))):=by simp only [lA]
 have next:∀(S:St) (Z1:List Nat) (z:Env),Z1.Perm (A++V)→Srt (leZ cz) Z1→ArS S R ty t b (P++(Z1++(B++(D++Q))))→wpD gt C F181.body.rt.rt.rt.rt.rt.rt.rt.rt.rt.rt.rt ((0,.val (slA t xs.length xs))::(3,.val (.int .i64 c))::(4,.val (.fn f [] cs))::(18,.val (.int .i64 mid))::(24,.val (.int .i64 e))::z) S (bodyQ gt F181.res fun r S'=>r=.ret (.tup [])∧G S'):=fun S Z1 z p1 s1 hA=>by
  have zl:=p1.length_eq
  rw [lA] at zl
  refine mrgLast_wp (gt:=gt) hm ih (P:=P++Z1) (B:=B) (D:=D) (Q:=Q) (by rw [lA];omega) (by rw [lA];omega) (by rw [lA];omega) hk2 (fun x hx=>hn x (List.mem_append_right _ hx)) sB sD (by rw [hx];simp only [lA];omega) (by rw [hlen] at hl;simp only [lA];omega) (by rw [aA];exact hA) ?_
  intro S' Z2 p2 s2 hA2
  exact fin S' Z1 Z2 p1 s1 p2 s2 (by simpa only [aA] using hA2)
 have triv:(A=[]∨V=[])→∀(o1 o2:Ent) z,wpD gt C F181.body.rt.rt.rt.rt.rt.rt.rt.rt.rt.rt.rt ((0,.val (slA t xs.length xs))::(1,o1)::(3,.val (.int .i64 c))::(4,.val (.fn f [] cs))::(18,.val (.int .i64 mid))::(20,o2)::(24,.val (.int .i64 e))::z) S (bodyQ gt F181.res fun r S'=>r=.ret (.tup [])∧G S'):=fun h o1 o2 z =>
  mrgLast2_wp (gt:=gt) hm ih (P:=P++(A++V)) (B:=B) (D:=D) (Q:=Q) (by simp only [lA];omega) (by simp only [lA];omega) (by simp only [lA];omega) hk2 (fun x hx=>hn x (List.mem_append_right _ hx)) sB sD (by rw [hx];simp only [lA];omega) (by rw [hlen] at hl;simp only [lA];omega) (by simpa only [aA] using hA) fun S' Z2 p2 s2 hA2 =>
   fin S' (A++V) Z2 (List.Perm.refl _) (by rcases h with rfl | rfl;exact sV;rw [List.append_nil];exact sA) p2 s2 (by simpa only [aA] using hA2)
 conv=>whnf
 refine goW ?_
 by_cases c1:(a:Int)<(s:Int)
 ·rw [dT c1]
  refine goW ?_
  by_cases c2:(s:Int)<(mid:Int)
  ·rw [dT c2]
   have b1:A≠[]:=fun h=>by rw [h] at h2;simp at h2;omega
   have b2:V≠[]:=fun h=>by rw [h] at h1;simp at h1;omega
   refine goW ?_
   refine call_rule (by rfl) (hm _ _ _ _ _ (ih S xs P A V (B++(D++Q)) a s mid (hk1 b1 b2) h0 h2 h1 b1 b2 (fun x hx=>hn x (List.mem_append_left _ hx)) sA sV hx hl hA) ?_)
   rintro r S2 ⟨rfl,Z1,z1,z2,z3⟩
   have next:=next S2 Z1 [] z1 z2 z3
   refine goK ?_
   with_unfolding_all exact next
  ·rw [dF c2]
   have triv:=triv (.inr (nL (by omega)))
   refine goK ?_
   with_unfolding_all exact triv _ _ _
 ·rw [dF c1]
  have triv:=triv (.inl (nL (by omega)))
  refine goK ?_
  with_unfolding_all exact triv _ _ _
end

section
variable {gt:GT} {C:CallT} {R:List Rs} {ty:TypeId} {t b:Nat}
set_option maxHeartbeats 8000000 in
theorem mrgRot_wp (hm:MonoC C) {f:FuncId} {cs:List AV} {n k:Nat} {cz:Nat→Nat→Int} (ih:MrgC C R ty t b n (.fn f [] cs) cz k) (hr:RotC C R ty t b (.fn f [] cs)) {S:St} {xs:List AV} {P A V B D Q:List Nat} {a m mid s e c:Nat} {z:Env} {G:St→Prop}
  (h0:a=P.length) (hmm:m=P.length+A.length+B.length) (h1:mid=P.length+A.length+V.length) (h2:s=P.length+A.length) (h3:e=mid+B.length) (h4:c=e+D.length) (hk1:A≠[]→V≠[]→A.length+V.length≤k) (hk2:B≠[]→D≠[]→B.length+D.length≤k)
  (hn:∀x∈(A++V)++(B++D),x<n) (sA:Srt (leZ cz) A) (sV:Srt (leZ cz) V) (sB:Srt (leZ cz) B) (sD:Srt (leZ cz) D)
  (hx:xs.length=(P++(A++(B++(V++(D++Q))))).length) (hl:(P++(A++(B++(V++(D++Q))))).length<1152921504606846976) (hA:ArS S R ty t b (P++(A++(B++(V++(D++Q))))))
  (fin:∀S' Z1 Z2,Z1.Perm (A++V)→Srt (leZ cz) Z1→Z2.Perm (B++D)→Srt (leZ cz) Z2→ArS S' R ty t b (P++((Z1++Z2)++Q))→G S') :
  wpD gt C F181.body.rt.rt.rt.rt.rt.rt.rt.rt.rt ((0,.val (slA t xs.length xs))::(1,.val (.int .i64 a))::(2,.val (.int .i64 m))::(3,.val (.int .i64 c))::(4,.val (.fn f [] cs))::(18,.val (.int .i64 mid))::(20,.val (.int .i64 s))::(24,.val (.int .i64 e))::z) S (bodyQ gt F181.res fun r S'=>r=.ret (.tup [])∧G S'):=by
 have hlen:(P++(A++(B++(V++(D++Q))))).length=P.length+(A.length+(B.length+(V.length+(D.length+Q.length)))):=by simp only [lA]
 have hlen2:(P++(A++(V++(B++(D++Q))))).length=P.length+(A.length+(B.length+(V.length+(D.length+Q.length)))):=by simp only [lA];omega
 rw [hlen] at hx hl
 have triv:(B=[]∨V=[])→∀(o:Ent) z,wpD gt C F181.body.rt.rt.rt.rt.rt.rt.rt.rt.rt.rt ((0,.val (slA t xs.length xs))::(1,.val (.int .i64 a))::(2,o)::(3,.val (.int .i64 c))::(4,.val (.fn f [] cs))::(18,.val (.int .i64 mid))::(20,.val (.int .i64 s))::(24,.val (.int .i64 e))::z) S (bodyQ gt F181.res fun r S'=>r=.ret (.tup [])∧G S'):=fun h o z =>
  mrgFirst2_wp (gt:=gt) hm ih (P:=P) (A:=A) (V:=V) (B:=B) (D:=D) (Q:=Q) h0 h1 h2 h3 h4 hk1 hk2 hn sA sV sB sD (by rw [hlen2];exact hx) (by rw [hlen2];exact hl) (by rcases h with rfl | rfl<;>exact hA) fin
 have next:∀(S:St) z,ArS S R ty t b (P++(A++(V++(B++(D++Q)))))→wpD gt C F181.body.rt.rt.rt.rt.rt.rt.rt.rt.rt.rt ((0,.val (slA t xs.length xs))::(1,.val (.int .i64 a))::(3,.val (.int .i64 c))::(4,.val (.fn f [] cs))::(18,.val (.int .i64 mid))::(20,.val (.int .i64 s))::(24,.val (.int .i64 e))::z) S (bodyQ gt F181.res fun r S'=>r=.ret (.tup [])∧G S'):=fun S z hA =>
  mrgFirst_wp (gt:=gt) hm ih (P:=P) (A:=A) (V:=V) (B:=B) (D:=D) (Q:=Q) h0 h1 h2 h3 h4 hk1 hk2 hn sA sV sB sD (by rw [hlen2];exact hx) (by rw [hlen2];exact hl) hA fin
 conv=>whnf
 refine goW ?_
 by_cases c1:(s:Int)<(m:Int)
 ·rw [dT c1]
  refine goW ?_
  by_cases c2:(m:Int)<(e:Int)
  ·rw [dT c2]
   have b1:B≠[]:=fun h=>by rw [h] at hmm;simp at hmm;omega
   have b2:V≠[]:=fun h=>by rw [h] at h1;simp at h1;omega
   refine goW ?_
   refine call_rule (by rfl) (hm _ _ _ _ _ (hr S xs (P++A) B V (D++Q) s m e (by rw [lA];exact h2) (by rw [lA];exact hmm) (by rw [lA];omega) b1 b2 (by simp only [lA];omega) (by simp only [lA];omega) (by rw [aA];exact hA)) ?_)
   rintro r S2 ⟨rfl,hA2⟩
   rw [aA] at hA2
   have next:=next S2 [] hA2
   refine goK ?_
   with_unfolding_all exact next
  ·rw [dF c2]
   have triv:=triv (.inr (nL (by omega)))
   refine goK ?_
   with_unfolding_all exact triv _ _
 ·rw [dF c1]
  have triv:=triv (.inl (nL (by omega)))
  refine goK ?_
  with_unfolding_all exact triv _ _
abbrev E_sr (t:Nat) (xs:List AV) (a m c:Nat) (g:AV) (mid n s r p:Nat):Env:=[(0,.val (slA t xs.length xs)),(1,.val (.int .i64 a)),(2,.val (.int .i64 m)),(3,.val (.int .i64 c)),(4,.val g),(18,.val (.int .i64 mid)),(19,.val (.int .i64 n)),(20,.val (.int .i64 s)),(21,.val (.int .i64 r)),(22,.val (.int .i64 p))]
set_option maxHeartbeats 8000000 in
theorem mrgSeek_wp (hm:MonoC C) {f:FuncId} {cs:List AV} {n k:Nat} {cz:Nat→Nat→Int} (hz:Cz cz) (hc:CmpC C f cs R ty t b n cz) (ih:MrgC C R ty t b n (.fn f [] cs) cz k) (hr:RotC C R ty t b (.fn f [] cs)) {S:St} {xs:List AV} {P X Y Q:List Nat} {a m c mid nn lo hi hN l0 h0:Nat} {z:Env} {G:St→Prop}
  (ha:a=P.length) (hmm:m=P.length+X.length) (hcc:c=P.length+X.length+Y.length) (hmid:mid=P.length+hN) (hnn:nn=mid+m) (hlo:lo=P.length+l0) (hhi:hi=P.length+h0)
  (rng:(l0=0∧h0=X.length∧X.length≤hN∧hN≤Y.length)∨(l0+Y.length=hN∧h0=hN∧hN≤X.length)) (hk1:hN≤k) (hk2:X.length+Y.length≤k+hN)
  (hn:∀x∈X++Y,x<n) (sX:Srt (leZ cz) X) (sY:Srt (leZ cz) Y) (hN0:0<hN)
  (hx:xs.length=(P++(X++(Y++Q))).length) (hl:(P++(X++(Y++Q))).length<1152921504606846976) (hA:ArS S R ty t b (P++(X++(Y++Q))))
  (fin:∀S' Z,Z.Perm (X++Y)→Srt (leZ cz) Z→ArS S' R ty t b (P++(Z++Q))→G S') :
  wpD gt C F181.body.rt.rt.rt.rt.rt.rt ((0,.val (slA t xs.length xs))::(1,.val (.int .i64 a))::(2,.val (.int .i64 m))::(3,.val (.int .i64 c))::(4,.val (.fn f [] cs))::(18,.val (.int .i64 mid))::(19,.val (.int .i64 nn))::(20,.val (.int .i64 lo))::(21,.val (.int .i64 hi))::z) S (bodyQ gt F181.res fun r S'=>r=.ret (.tup [])∧G S'):=by
 have hlen:(P++(X++(Y++Q))).length=P.length+(X.length+(Y.length+Q.length)):=by simp only [lA]
 have hl':=hl
 rw [hlen] at hl'
 have wp:wr .i64 ((nn:Int)-1)=((nn-1:Nat):Int):=by rw [wr64 (by omega) (by omega)];omega
 conv=>whnf
 refine goW ?_
 rw [wp]
 refine loop_rule hm (α:=Nat×Nat) (fun q env S'=>env=E_sr t xs a m c (.fn f [] cs) mid nn (P.length+q.1) (P.length+q.2) (nn-1)∧l0≤q.1∧q.1≤q.2∧q.2≤h0∧S'=S∧(q.1=l0∨∃x y,X[q.1-1]? = some x∧Y[hN-q.1]? = some y∧leZ cz x y)∧(q.2=h0∨∃x y,X[q.2]? = some x∧Y[hN-1-q.2]? = some y∧leZ cz y x)) (fun q=>q.2-q.1) ?_
  (a:=(l0,h0)) ⟨by rw [hlo,hhi],Nat.le_refl _,by simp only;omega,Nat.le_refl _,rfl,.inl rfl,.inl rfl⟩
 rintro⟨i,j⟩ env S' ⟨rfl,i0,hij0,j0,rfl,q1,q2⟩
 simp only at i0 hij0 j0 q1 q2
 refine goW ?_
 by_cases hij:((P.length+i:Nat):Int)<((P.length+j:Nat):Int)
 ·rw [dT hij]
  obtain⟨r,hr⟩:∃r,r=(i+j) / 2:=⟨_,rfl⟩
  have hri:i≤r:=by omega
  have hrj:r<j:=by omega
  have hrX:r<X.length:=by omega
  have hrY:hN-1-r<Y.length:=by omega
  have g0:(P++(X++(Y++Q)))[P.length+r]? = some X[r]:=by
   rw [List.getElem?_append_right (by omega),show P.length+r-P.length=r by omega,List.getElem?_append_left hrX]
   exact gE hrX
  have g1:(P++(X++(Y++Q)))[P.length+X.length+(hN-1-r)]? = some Y[hN-1-r]:=by
   rw [←aA,List.getElem?_append_right (by rw [lA];omega),show P.length+X.length+(hN-1-r)-(P++X).length=hN-1-r by rw [lA];omega,List.getElem?_append_left hrY]
   exact gE hrY
  have hcall:=hc S' _ Y[hN-1-r] X[r] hA (hn _ (List.mem_append_right _ (List.getElem_mem hrY))) (hn _ (List.mem_append_left _ (List.getElem_mem hrX)))
  have e0:X[r]? = some X[r]:=gE hrX
  have e1:Y[hN-1-r]? = some Y[hN-1-r]:=gE hrY
  generalize Y[hN-1-r]=y at g1 hcall e1
  generalize X[r]=x at g0 hcall e0
  have w1:wr .i64 (((nn-1:Nat):Int)-((P.length+r:Nat):Int))=((P.length+X.length+(hN-1-r):Nat):Int):=by rw [wr64 (by omega) (by omega)];omega
  refine goW ?_
  rw [midW (by omega),show (P.length+i+(P.length+j)) / 2=P.length+r by omega]
  refine goW ?_
  rw [w1]
  refine step_ruleDO rfl rfl (sx_ia (k:=P.length+X.length+(hN-1-r)) rfl rfl (by omega)) (goW ?_)
  refine step_ruleDO rfl rfl (sx_ldEl (agg:=false) rfl (hA.els hx) (ints_get g1) rfl) (goW ?_)
  refine step_ruleDO rfl rfl (sx_ia (k:=P.length+r) rfl rfl (by omega)) (goW ?_)
  refine step_ruleDO rfl rfl (sx_ldEl (agg:=false) rfl (hA.els hx) (ints_get g0) rfl) (goW ?_)
  refine call_ruleD (by rfl) (hm _ _ _ _ _ hcall ?_)
  rintro r' S3 ⟨rfl,rfl⟩
  refine goW ?_
  by_cases hlt:cz y x<0
  ·rw [dT hlt]
   refine goW ?_
   refine⟨(i,r),⟨rfl,i0,hri,by simp only;omega,rfl,q1,.inr ⟨x,y,e0,e1,hz.asy hlt⟩⟩,by simp only;omega⟩
  ·rw [dF hlt]
   refine goW ?_
   refine⟨(r+1,j),⟨?_,by simp only;omega,by simp only;omega,j0,rfl,.inr ⟨x,y,e0,?_,by unfold leZ;omega⟩,q2⟩,by simp only;omega⟩
   ·rw [wrNat (by omega)]
    try rfl
   ·rw [show hN-(r+1)=hN-1-r by omega];exact e1
 ·rw [dF hij]
  obtain rfl:i=j:=by omega
  have iX:i≤X.length:=by omega
  have tY:hN-i≤Y.length:=by omega
  have tA:(X.take i).length=i:=by rw [lT];omega
  have tB:(X.drop i).length=X.length-i:=lD
  have tV:(Y.take (hN-i)).length=hN-i:=by rw [lT];omega
  have tD:(Y.drop (hN-i)).length=Y.length-(hN-i):=lD
  have hX:X.take i++X.drop i=X:=tkD _ _
  have hY:Y.take (hN-i)++Y.drop (hN-i)=Y:=tkD _ _
  have sX':=sX
  have sY':=sY
  rw [←hX] at sX'
  rw [←hY] at sY'
  obtain⟨sA,sB,sAB⟩:=srt_app.1 sX'
  obtain⟨sV,sD,sVD⟩:=srt_app.1 sY'
  have sAD:∀u∈X.take i,∀v∈Y.drop (hN-i),leZ cz u v:=ends_le (le:=leZ cz) (fun h h'=>hz.tr h h') sA sD (fun u v e1 e2=>by
   rw [tA] at e1
   rcases q1 with q1 | ⟨x,y,f1,f2,f3⟩
   ·exfalso
    rcases rng with rng | rng
    ·rw [show i=0 by omega] at e1;simp at e1
    ·rw [List.getElem?_eq_none (show (Y.drop (hN-i)).length≤0 by rw [tD];omega)] at e2;cases e2
   ·rw [List.getElem?_drop,Nat.add_zero,f2] at e2
    have:i≠0:=fun h=>by rw [h] at e1;simp at e1
    rw [List.getElem?_take_of_lt (by omega),f1] at e1
    cases e1;cases e2;exact f3) (fun a=>hz.rf a)
  have sVB:∀u∈Y.take (hN-i),∀v∈X.drop i,leZ cz u v:=ends_le (le:=leZ cz) (fun h h'=>hz.tr h h') sV sB (fun u v e1 e2=>by
   rw [tV] at e1
   rcases q2 with q2 | ⟨x,y,f1,f2,f3⟩
   ·exfalso
    rcases rng with rng | rng
    ·rw [List.getElem?_eq_none (show (X.drop i).length≤0 by rw [tB];omega)] at e2;cases e2
    ·rw [show hN-i=0 by omega] at e1;simp at e1
   ·rw [List.getElem?_drop,Nat.add_zero,f1] at e2
    have:hN-i≠0:=fun h=>by rw [h] at e1;simp at e1
    rw [List.getElem?_take_of_lt (by omega),show hN-i-1=hN-1-i by omega,f2] at e1
    cases e1;cases e2;exact f3) (fun a=>hz.rf a)
  have mo:∀S' Z1 Z2,Z1.Perm (X.take i++Y.take (hN-i))→Srt (leZ cz) Z1→Z2.Perm (X.drop i++Y.drop (hN-i))→Srt (leZ cz) Z2→ArS S' R ty t b (P++((Z1++Z2)++Q))→G S':=fun S' Z1 Z2 p1 z1 p2 z2 hA=>by
   obtain⟨m1,m2⟩:=merge_ok z1 z2 p1 p2 sAB sAD sVB sVD
   rw [hX,hY] at m2
   exact fin S' _ m2 m1 hA
  have hn':∀x∈(X.take i++Y.take (hN-i))++(X.drop i++Y.drop (hN-i)),x<n:=fun x hx=>hn x (by
   rw [aA,List.mem_append,List.mem_append,List.mem_append] at hx
   rw [List.mem_append]
   rcases hx with h | h | h | h
   ·exact .inl (List.mem_of_mem_take h)
   ·exact .inr (List.mem_of_mem_take h)
   ·exact .inl (List.mem_of_mem_drop h)
   ·exact .inr (List.mem_of_mem_drop h))
  have hl2:P++(X++(Y++Q))=P++(X.take i++(X.drop i++(Y.take (hN-i)++(Y.drop (hN-i)++Q)))):=by
   rw [←aA (X.take i),hX,←aA (Y.take (hN-i)),hY]
  rw [hl2] at hx hl hA
  have w1:wr .i64 ((nn:Int)-((P.length+i:Nat):Int))=((mid+(X.length-i):Nat):Int):=by rw [wr64 (by omega) (by omega)];omega
  have next:=mrgRot_wp (gt:=gt) (z:=[]) hm ih hr (a:=a) (m:=m) (mid:=mid) (s:=P.length+i) (e:=mid+(X.length-i)) (c:=c) ha (by rw [tA,tB];omega) (by rw [tA,tV];omega) (by rw [tA]) (by rw [tB]) (by rw [tD];omega) (fun _ _=>by rw [tA,tV];omega) (fun _ _=>by rw [tB,tD];omega) hn' sA sV sB sD hx hl hA mo
  clear mo hn' sAD sVB sAB sVD
  conv=>whnf
  refine sI (by rfl) ?_
  conv=>whnf
  refine sI (by rfl) ?_
  conv=>whnf
  refine sI (by rfl) ?_
  conv=>whnf
  refine sI (by rfl) ?_
  conv=>whnf
  rw [w1]
  refine goK ?_
  with_unfolding_all exact next
end
end Go.Dn

namespace Go.Dn
open Go
theorem goJ {G G':Prop} (k:G') (h:G'→G:=by
 intro hk;((try refine And.intro (by rfl) ?_);(conv=>whnf);(repeat (refine sI (by rfl) ?_;conv=>whnf));(generalize hE:keepE _ _=e0;revert hE;apply kI;(repeat (first | exact kN _ | (apply kC;with_unfolding_all rfl;rfl)));rintro rfl));exact hk):G:=h k
end Go.Dn

namespace Go.Dn
open Go Go.Proofs.C1
set_option maxRecDepth 100000
attribute [local irreducible] afterS keepE
section
variable {gt:GT} {C:CallT} {R:List Rs} {ty:TypeId} {t b:Nat}
set_option maxHeartbeats 8000000 in
theorem mrg3_wp (hm:MonoC C) {f:FuncId} {cs:List AV} {n k:Nat} {cz:Nat→Nat→Int} (hz:Cz cz) (hc:CmpC C f cs R ty t b n cz) (ih:MrgC C R ty t b n (.fn f [] cs) cz k) (hr:RotC C R ty t b (.fn f [] cs)) {S:St} {xs:List AV} {P X Y Q:List Nat} {a m c:Nat}
  (ha:a=P.length) (hmm:m=P.length+X.length) (hcc:c=P.length+X.length+Y.length) (hX:2≤X.length) (hY:2≤Y.length) (hk:X.length+Y.length≤k+1) (hn:∀x∈X++Y,x<n) (sX:Srt (leZ cz) X) (sY:Srt (leZ cz) Y)
  (hx:xs.length=(P++(X++(Y++Q))).length) (hl:(P++(X++(Y++Q))).length<1152921504606846976) (hA:ArS S R ty t b (P++(X++(Y++Q)))) :
  wpF gt C F181 [slA t xs.length xs,.int .i64 a,.int .i64 m,.int .i64 c,.fn f [] cs] S fun r S'=>r=.ret (.tup [])∧∃Z,Z.Perm (X++Y)∧Srt (leZ cz) Z∧ArS S' R ty t b (P++(Z++Q)):=by
 have hlen:(P++(X++(Y++Q))).length=P.length+(X.length+(Y.length+Q.length)):=by simp only [lA]
 have hl':=hl
 rw [hlen] at hl'
 obtain⟨hN,hNe⟩:∃h,h=(X.length+Y.length) / 2:=⟨_,rfl⟩
 have w1:wr .i64 ((m:Int)-(a:Int))=(X.length:Int):=by rw [wr64 (by omega) (by omega)];omega
 have w2:wr .i64 ((c:Int)-(m:Int))=(Y.length:Int):=by rw [wr64 (by omega) (by omega)];omega
 have w3:wr .i64 (((P.length+hN:Nat):Int)+(m:Int))=((P.length+hN+m:Nat):Int):=by rw [wr64 (by omega) (by omega)];omega
 have next:∀(l0 h0 lo hi:Nat) (z:Env),lo=P.length+l0→hi=P.length+h0→((l0=0∧h0=X.length∧X.length≤hN∧hN≤Y.length)∨(l0+Y.length=hN∧h0=hN∧hN≤X.length))→_:=fun l0 h0 lo hi z e1 e2 e3 =>
  mrgSeek_wp (gt:=gt) (z:=z) (G:=fun S'=>∃Z,Z.Perm (X++Y)∧Srt (leZ cz) Z∧ArS S' R ty t b (P++(Z++Q))) hm hz hc ih hr (a:=a) (m:=m) (c:=c) (mid:=P.length+hN) (nn:=P.length+hN+m) ha hmm hcc rfl rfl e1 e2 e3 (by omega) (by omega) hn sX sY (by omega) hx hl hA (fun S' Z p s h=>⟨Z,p,s,h⟩)
 refine⟨rfl,?_⟩
 refine goW ?_
 rw [w1,eqI_false (show ¬(X.length:Int)=1 by omega)]
 refine goW ?_
 rw [w2,eqI_false (show ¬(Y.length:Int)=1 by omega)]
 refine goW ?_
 rw [midW (by omega),show (a+c) / 2=P.length+hN by omega]
 refine goW ?_
 rw [w3]
 by_cases hc1:(m:Int) > ((P.length+hN:Nat):Int)
 ·rw [dT hc1]
  have next:=next (hN-Y.length) hN (P.length+hN+m-c) (P.length+hN) [] (by omega) rfl (.inr (by omega))
  have w4:wr .i64 (((P.length+hN+m:Nat):Int)-(c:Int))=((P.length+hN+m-c:Nat):Int):=by rw [wr64 (by omega) (by omega)];omega
  refine goJ ?_
  refine goJ ?_
  rw [w4]
  with_unfolding_all exact next
 ·rw [dF hc1]
  have next:=next 0 X.length a m [] (by omega) hmm (.inl (by omega))
  refine goJ ?_
  refine goJ ?_
  with_unfolding_all exact next
end

section
variable {gt:GT} {C:CallT} {R:List Rs} {ty:TypeId} {t b:Nat}
theorem mrgC (hm:MonoC C) (hI:∀us S Q,wpF gt C F181 us S Q→C 181 us S Q) {f:FuncId} {cs:List AV} {n:Nat} {cz:Nat→Nat→Int} (hz:Cz cz) (hc:CmpC C f cs R ty t b n cz) (hr:RotC C R ty t b (.fn f [] cs)):∀k,MrgC C R ty t b n (.fn f [] cs) cz k
 | 0=>fun S xs P X Y Q a m c hk _ _ _ hX hY=>by
  exfalso
  have:=List.length_pos_iff.2 hX
  omega
 | k+1=>fun S xs P X Y Q a m c hk ha hmm hcc hX hY hn sX sY hx hl hA=>hI _ _ _ (by
  have lX:=List.length_pos_iff.2 hX
  have lY:=List.length_pos_iff.2 hY
  by_cases c1:X.length=1
  ·obtain⟨x,rfl⟩:=List.length_eq_one_iff.1 c1
   have:=mrg1_wp (gt:=gt) hm hz hc (P:=P) (Y:=Y) (Q:=Q) (x:=x) (S:=S) (xs:=xs) (fun y hy=>hn y (List.mem_append_right _ hy)) (hn x (by simp)) sY hx hl hA
   rw [ha,hmm,hcc]
   exact this
  ·by_cases c2:Y.length=1
   ·obtain⟨y,rfl⟩:=List.length_eq_one_iff.1 c2
    have:=mrg2_wp (gt:=gt) hm hz hc (P:=P) (Y:=X) (Q:=Q) (x:=y) (S:=S) (xs:=xs) (fun x hx=>hn x (List.mem_append_left _ hx)) (hn y (by simp)) sX (by omega) hx hl hA
    rw [ha,hmm,hcc]
    exact this
   ·exact mrg3_wp hm hz hc (mrgC hm hI hz hc hr k) hr ha hmm hcc (by omega) (by omega) hk hn sX sY hx hl hA)
def StbC (C:CallT) (R:List Rs) (ty:TypeId) (t b n:Nat) (g:AV) (cz:Nat→Nat→Int) (h:FuncId) (ar:List AV→List AV):Prop :=
 ∀(S:St) (xs:List AV) (L:List Nat),(∀x∈L,x<n)→xs.length=L.length→L.length<1152921504606846976→ArS S R ty t b L →
  C h (ar xs) S fun r S'=>r=.ret (.tup [])∧∃Z,Z.Perm L∧Srt (leZ cz) Z∧ArS S' R ty t b Z
abbrev E_s1 (t:Nat) (xs:List AV) (g:AV) (bs a c:Nat):Env:=[(0,.val (slA t xs.length xs)),(1,.val (.int .i64 xs.length)),(2,.val g),(6,.val (.int .i64 bs)),(7,.val (.int .i64 a)),(8,.val (.int .i64 c))]
abbrev E_s2 (t:Nat) (xs:List AV) (g:AV) (bs:Nat):Env:=[(0,.val (slA t xs.length xs)),(1,.val (.int .i64 xs.length)),(2,.val g),(6,.val (.int .i64 bs))]
theorem take_drop2 (u:List Nat) (k:Nat):u.take k++((u.drop k).take k++u.drop (2*k))=u:=by
 rw [show u.drop (2*k)=(u.drop k).drop k by rw [List.drop_drop];congr 1;omega,tkD,tkD]
set_option maxHeartbeats 8000000 in
theorem stb_wp (hm:MonoC C) {f:FuncId} {cs:List AV} {n:Nat} {cz:Nat→Nat→Int} (hi:InsC C R ty t b n (.fn f [] cs) cz) (hg:∀k,MrgC C R ty t b n (.fn f [] cs) cz k) {S:St} {xs:List AV} {L:List Nat} (hn:∀x∈L,x<n) (hx:xs.length=L.length) (hl:L.length<1152921504606846976) (hA:ArS S R ty t b L) :
  wpF gt C F150 [slA t xs.length xs,.int .i64 xs.length,.fn f [] cs] S fun r S'=>r=.ret (.tup [])∧∃Z,Z.Perm L∧Srt (leZ cz) Z∧ArS S' R ty t b Z:=by
 refine⟨rfl,?_⟩
 refine goW ?_
 refine loop_rule hm (α:=List Nat×List Nat) (fun q env S'=>env=E_s1 t xs (.fn f [] cs) 20 q.1.length (q.1.length+20)∧(q.1++q.2).Perm L∧Blk (leZ cz) 20 q.1∧q.1.length % 20=0∧ArS S' R ty t b (q.1++q.2)) (fun q=>q.2.length) ?_ (a:=([],L)) ⟨rfl,List.Perm.refl _,Blk.nil,rfl,hA⟩
 rintro⟨d,u⟩ env S1 ⟨rfl,hp,hb,hd,hA⟩
 simp only at hp hb hd hA
 have pl:=hp.length_eq
 rw [lA] at pl
 have hun:∀x∈u,x<n:=fun x hx=>hn x (hp.mem_iff.1 (List.mem_append_right _ hx))
 refine goW ?_
 by_cases c1:((d.length+20:Nat):Int)≤(xs.length:Int)
 ·rw [dT c1]
  have ht:(u.take 20).length=20:=by rw [lT];omega
  have hA':ArS S1 R ty t b (d++(u.take 20++u.drop 20)):=by rw [tkD];exact hA
  refine goW ?_
  refine call_rule (by rfl) (hm _ _ _ _ _ (hi S1 xs d (u.take 20) (u.drop 20) d.length (d.length+20) rfl (by rw [ht]) (fun x hx=>hun x (List.mem_of_mem_take hx)) (by rw [tkD,lA];omega) (by rw [tkD,lA];omega) hA') ?_)
  rintro r S2 ⟨rfl,Z,z1,z2,z3⟩
  have zl:=z1.length_eq
  rw [ht] at zl
  refine goW ?_
  refine⟨(d++Z,u.drop 20),⟨?_,?_,hb.app (by omega) hd (Blk.of z2),by rw [lA,zl];omega,by rw [aA];exact z3⟩,by simp only [lD];omega⟩
  ·simp only [E_s1]
   rw [show wr .i64 (((d.length+20:Nat):Int)+((20:Nat):Int))=((d.length+20+20:Nat):Int) by rw [wr64 (by omega) (by omega)];omega,lA,zl]
  ·refine List.Perm.trans ?_ hp
   simp only
   rw [aA]
   refine List.Perm.append_left d ?_
   have:=List.Perm.append_right (u.drop 20) z1
   rw [tkD] at this
   exact this
 ·rw [dF c1]
  have hA':ArS S1 R ty t b (d++(u++[])):=by rw [List.append_nil];exact hA
  refine goW ?_
  refine call_rule (by rfl) (hm _ _ _ _ _ (hi S1 xs d u [] d.length xs.length rfl (by omega) hun (by rw [List.append_nil,lA];omega) (by rw [List.append_nil,lA];omega) hA') ?_)
  rintro r S2 ⟨rfl,Z,z1,z2,z3⟩
  have zl:=z1.length_eq
  refine goW ?_
  have hp2:(d++Z).Perm L:=(List.Perm.append_left d z1).trans hp
  have hb2:Blk (leZ cz) 20 (d++Z):=hb.app (by omega) hd (Blk.of z2)
  rw [List.append_nil] at z3
  generalize d++Z=D at hp2 hb2 z3
  clear hp hb hd hA hA' pl hun c1 z1 z2 zl
  refine loop_rule hm (α:=List Nat×Nat) (fun q env S'=>env=E_s2 t xs (.fn f [] cs) q.2∧q.1.Perm L∧0<q.2∧q.2<2305843009213693952∧Blk (leZ cz) q.2 q.1∧ArS S' R ty t b q.1) (fun q=>xs.length-q.2) ?_ (a:=(D,20)) ⟨rfl,hp2,by simp only;omega,by simp only;omega,hb2,z3⟩
  clear hp2 hb2 z3 D Z
  rintro⟨D,bs⟩ env S3 ⟨rfl,hp,b0,b1,hb,hA⟩
  simp only at hp b0 b1 hb hA
  refine goW ?_
  by_cases c2:(bs:Int)<(xs.length:Int)
  ·rw [dT c2]
   refine goW ?_
   have w2:wr .i64 (2*(bs:Int))=((2*bs:Nat):Int):=by rw [wr64 (by omega) (by omega)];omega
   rw [w2]
   refine loop_rule hm (α:=List Nat×List Nat) (fun q env S'=>env=E_s1 t xs (.fn f [] cs) bs q.1.length (q.1.length+2*bs)∧(q.1++q.2).Perm L∧Blk (leZ cz) (2*bs) q.1∧q.1.length % (2*bs)=0∧Blk (leZ cz) bs q.2∧ArS S' R ty t b (q.1++q.2)) (fun q=>q.2.length) ?_ (a:=([],D)) ⟨by simp [E_s1],hp,Blk.nil,by simp,hb,hA⟩
   clear hp hb hA
   rintro⟨d,u⟩ env S4 ⟨rfl,hp,hd,hdl,hb,hA⟩
   simp only at hp hd hdl hb hA
   have pl:=hp.length_eq
   rw [lA] at pl
   have hun:∀x∈u,x<n:=fun x hx=>hn x (hp.mem_iff.1 (List.mem_append_right _ hx))
   refine goW ?_
   by_cases c3:((d.length+2*bs:Nat):Int)≤(xs.length:Int)
   ·rw [dT c3]
    have ht:(u.take bs).length=bs:=by rw [lT];omega
    have ht2:((u.drop bs).take bs).length=bs:=by rw [lT,lD];omega
    have h3:=take_drop2 u bs
    have hA':ArS S4 R ty t b (d++(u.take bs++((u.drop bs).take bs++u.drop (2*bs)))):=by rw [h3];exact hA
    rw [←h3] at hb
    have b1':Blk (leZ cz) bs (u.take bs):=Blk.take hb
    have b2':=Blk.drop hb b0 (by rw [ht];exact Nat.mod_self _)
    have b3':=Blk.drop b2' b0 (by rw [ht2];exact Nat.mod_self _)
    have w3:wr .i64 ((d.length:Int)+(bs:Int))=((d.length+bs:Nat):Int):=by rw [wr64 (by omega) (by omega)];omega
    have w4:wr .i64 (((d.length+2*bs:Nat):Int)+((2*bs:Nat):Int))=((d.length+2*bs+2*bs:Nat):Int):=by rw [wr64 (by omega) (by omega)];omega
    have hcall:=hg (bs+bs) S4 xs d (u.take bs) ((u.drop bs).take bs) (u.drop (2*bs)) d.length (d.length+bs) (d.length+2*bs) (by rw [ht,ht2];omega) rfl (by rw [ht]) (by rw [ht,ht2];omega) (fun h=>by rw [h] at ht;simp at ht;omega) (fun h=>by rw [h] at ht2;simp at ht2;omega) (fun x hx=>hun x (by rw [←h3];simp only [List.mem_append] at hx ⊢;rcases hx with h | h;exact .inl h;exact .inr (.inl h))) (b1'.srt (by omega)) (b2'.take.srt (by omega)) (by rw [h3,lA];omega) (by rw [h3,lA];omega) hA'
    refine goW ?_
    rw [w3]
    refine call_rule (by rfl) (hm _ _ _ _ _ hcall ?_)
    rintro r S5 ⟨rfl,Z,z1,z2,z3⟩
    have zl:=z1.length_eq
    rw [lA,ht,ht2] at zl
    refine goW ?_
    rw [w2,w4]
    refine⟨(d++Z,u.drop (2*bs)),⟨?_,?_,hd.app (by omega) hdl (Blk.of z2),?_,b3',by rw [aA];exact z3⟩,by simp only [lD];omega⟩
    ·rw [lA,zl]
     simp only [E_s1]
     rw [show d.length+(bs+bs)=d.length+2*bs by omega]
    ·refine List.Perm.trans ?_ hp
     simp only
     rw [aA]
     refine List.Perm.append_left d ?_
     have:=List.Perm.append_right (u.drop (2*bs)) z1
     rw [aA,h3] at this
     exact this
    ·simp only
     rw [lA,zl,show bs+bs=2*bs by omega,Nat.add_mod_right];exact hdl
   ·rw [dF c3]
    have w3:wr .i64 ((d.length:Int)+(bs:Int))=((d.length+bs:Nat):Int):=by rw [wr64 (by omega) (by omega)];omega
    have w4:wr .i64 ((bs:Int)*2)=((bs*2:Nat):Int):=by rw [wr64 (by omega) (by omega)];omega
    refine goW ?_
    rw [w3]
    by_cases c4:((d.length+bs:Nat):Int)<(xs.length:Int)
    ·rw [dT c4]
     have ht:(u.take bs).length=bs:=by rw [lT];omega
     have ht2:(u.drop bs).length=u.length-bs:=lD
     have h3:u.take bs++(u.drop bs++[])=u:=by rw [List.append_nil,tkD]
     have hA':ArS S4 R ty t b (d++(u.take bs++(u.drop bs++[]))):=by rw [h3];exact hA
     rw [←tkD bs u] at hb
     have b1':Blk (leZ cz) bs (u.take bs):=Blk.take hb
     have b2':=Blk.drop hb b0 (by rw [ht];exact Nat.mod_self _)
     have hcall:=hg u.length S4 xs d (u.take bs) (u.drop bs) [] d.length (d.length+bs) xs.length (by rw [ht,ht2];omega) rfl (by rw [ht]) (by rw [ht,ht2];omega) (fun h=>by rw [h] at ht;simp at ht;omega) (fun h=>by rw [h] at ht2;simp at ht2;omega) (fun x hx=>hun x (by rw [tkD] at hx;exact hx)) (b1'.srt (by omega)) (b2'.srt (by omega)) (by rw [h3,lA];omega) (by rw [h3,lA];omega) hA'
     refine goW ?_
     refine call_rule (by rfl) (hm _ _ _ _ _ hcall ?_)
     rintro r S5 ⟨rfl,Z,z1,z2,z3⟩
     rw [tkD] at z1
     rw [List.append_nil] at z3
     refine goW ?_
     rw [w4]
     refine⟨(d++Z,2*bs),⟨by simp only [E_s2];rw [Nat.mul_comm],(List.Perm.append_left d z1).trans hp,by simp only;omega,by simp only;omega,hd.app (by omega) hdl (Blk.of z2),z3⟩,by simp only;omega⟩
    ·rw [dF c4]
     refine goW ?_
     rw [w4]
     refine⟨(d++u,2*bs),⟨by simp only [E_s2];rw [Nat.mul_comm],hp,by simp only;omega,by simp only;omega,hd.app (by omega) hdl (Blk.of (hb.srt (by omega))),hA⟩,by simp only;omega⟩
  ·rw [dF c2]
   refine goW ?_
   have pl:=hp.length_eq
   exact⟨_,rfl,rfl,D,hp,hb.srt (by omega),hA⟩
end
end Go.Dn

namespace Go.Dn
open Go Go.Proofs.C1
theorem cmpB_cons (a b:UInt8) (x y:List UInt8):cmpB (a::x) (b::y)=if a.toNat=b.toNat then cmpB x y else if a.toNat<b.toNat then -1 else 1:=by
 rw [cmpB]
 by_cases h:a.toNat=b.toNat
 ·rw [if_pos h,h,Nat.beq_refl];rfl
 ·have:Nat.beq a.toNat b.toNat=false:=by
   cases q:Nat.beq a.toNat b.toNat with
   | false=>rfl
   | true=>exact absurd (bE q) h
  rw [if_neg h,this]
  by_cases k:a.toNat<b.toNat
  ·rw [if_pos k,show Nat.blt a.toNat b.toNat=true from Nat.ble_eq_true_of_le k];rfl
  ·have:Nat.blt a.toNat b.toNat=false:=by
    cases q:Nat.blt a.toNat b.toNat with
    | false=>rfl
    | true=>exact absurd (Nat.le_of_ble_eq_true q) k
   rw [if_neg k,this];rfl
theorem cmpB_self:∀a:List UInt8,cmpB a a=0
 | []=>rfl
 | a::x=>by rw [cmpB_cons,if_pos rfl];exact cmpB_self x
theorem cmpB_anti:∀a b:List UInt8,cmpB b a=- cmpB a b
 | [],[]=>rfl
 | [],_::_=>rfl
 | _::_,[]=>rfl
 | a::x,b::y=>by
  rw [cmpB_cons,cmpB_cons]
  by_cases h:a.toNat=b.toNat
  ·rw [if_pos h,if_pos h.symm];exact cmpB_anti x y
  ·rw [if_neg h,if_neg (fun e=>h e.symm)]
   by_cases k:a.toNat<b.toNat
   ·rw [if_pos k,if_neg (by omega)];rfl
   ·rw [if_neg k,if_pos (by omega)]
theorem cmpB_zero:∀{a b:List UInt8},cmpB a b=0→a=b
 | [],[],_=>rfl
 | [],_::_,h=>by rw [show cmpB [] (_::_)=-1 from rfl] at h;exact absurd h (by decide)
 | _::_,[],h=>by rw [show cmpB (_::_) []=1 from rfl] at h;exact absurd h (by decide)
 | a::x,b::y,h=>by
  rw [cmpB_cons] at h
  by_cases e:a.toNat=b.toNat
  ·rw [if_pos e] at h
   rw [cmpB_zero h,UInt8.toNat_inj.1 e]
  ·rw [if_neg e] at h
   by_cases k:a.toNat<b.toNat
   ·rw [if_pos k] at h;cases h
   ·rw [if_neg k] at h;cases h
theorem cmpB_tr:∀{a b c:List UInt8},0≤cmpB b a→0≤cmpB c b→0≤cmpB c a
 | [],_,[],_,_=>by decide
 | [],_,_::_,_,_=>by rw [show cmpB (_::_) []=1 from rfl];decide
 | _::_,[],_,h,_=>absurd h (by rw [show cmpB [] (_::_)=-1 from rfl];decide)
 | _::_,_::_,[],_,h=>absurd h (by rw [show cmpB [] (_::_)=-1 from rfl];decide)
 | a::x,b::y,c::z,h,k=>by
  rw [cmpB_cons] at h k ⊢
  by_cases e:b.toNat=a.toNat
  ·rw [if_pos e] at h
   by_cases e2:c.toNat=b.toNat
   ·rw [if_pos e2] at k
    rw [if_pos (by omega)]
    exact cmpB_tr h k
   ·rw [if_neg e2] at k
    rw [if_neg (by omega)]
    by_cases l:c.toNat<b.toNat
    ·rw [if_pos l] at k;exact absurd k (by decide)
    ·rw [if_neg (by omega)];decide
  ·rw [if_neg e] at h
   by_cases l:b.toNat<a.toNat
   ·rw [if_pos l] at h;exact absurd h (by decide)
   ·by_cases e2:c.toNat=b.toNat
    ·rw [if_neg (by omega),if_neg (by omega)];decide
    ·rw [if_neg e2] at k
     by_cases l2:c.toNat<b.toNat
     ·rw [if_pos l2] at k;exact absurd k (by decide)
     ·rw [if_neg (by omega),if_neg (by omega)];decide
def czK (keys:List (List UInt8)) (i j:Nat):Int:=cmpB (keys.getD i []) (keys.getD j [])
theorem czK_cz (keys:List (List UInt8)):Cz (czK keys) where
 rf a:=by unfold czK;rw [cmpB_self];exact Int.le_refl 0
 tr h k:=cmpB_tr h k
 asy {a b} h:=by
  unfold czK at h ⊢
  rw [cmpB_anti];omega
def ordK (keys:List (List UInt8)):List Nat:=(List.range keys.length).mergeSort fun i j=>decide (0≤czK keys j i)
theorem ordK_perm (keys:List (List UInt8)):(ordK keys).Perm (List.range keys.length):=List.mergeSort_perm _ _
theorem ordK_srt (keys:List (List UInt8)):Srt (leZ (czK keys)) (ordK keys):=by
 have:=List.pairwise_mergeSort (le:=fun i j=>decide (0≤czK keys j i)) (fun a b c h k=>by
  simp only [decide_eq_true_eq] at h k ⊢
  exact (czK_cz keys).tr h k) (fun a b=>by
  simp only [Bool.or_eq_true,decide_eq_true_eq]
  rcases Int.lt_or_le (czK keys b a) 0 with q | q
  ·exact .inr ((czK_cz keys).asy q)
  ·exact .inl q) (List.range keys.length)
 exact this.imp fun h=>of_decide_eq_true h
theorem ordK_len (keys:List (List UInt8)):(ordK keys).length=keys.length:=by rw [(ordK_perm keys).length_eq,List.length_range]
theorem ordK_lt {keys:List (List UInt8)} {i:Nat} (h:i∈ordK keys):i<keys.length:=List.mem_range.1 ((ordK_perm keys).mem_iff.1 h)
theorem ordK_uniq {keys:List (List UInt8)} (hd:keys.Nodup) {Z:List Nat} (hp:Z.Perm (List.range keys.length)) (hs:Srt (leZ (czK keys)) Z):Z=ordK keys:=by
 refine List.Perm.eq_of_pairwise (fun a b ha hb h k=>?_) hs (ordK_srt keys) (hp.trans (ordK_perm keys).symm)
 have la:=List.mem_range.1 (hp.mem_iff.1 ha)
 have lb:=ordK_lt hb
 unfold leZ czK at h k
 rw [cmpB_anti] at h
 have:=cmpB_zero (a:=keys.getD a []) (b:=keys.getD b []) (by omega)
 rw [List.getD_eq_getElem?_getD,List.getD_eq_getElem?_getD,gE la,gE lb] at this
 exact (List.getElem_inj hd).1 this
end Go.Dn

namespace Go.Dn
open Go Go.Proofs.C1
set_option maxRecDepth 100000
attribute [local irreducible] afterS keepE
theorem sx_ldBx {gt:GT} {d:Option Nat} {env:Env} {S:St} {R:List Rs} (h:Hs S R) (i:Nat) {id:Nat} {ty:TypeId} {v:AV} (hi:R[i]? = some (.bx id ty [v])) (hn:notAgg v=true) {a:DOpd} (ha:loc env a=some (.hp id 0)) :
  stepO gt d env S (.ld false 1 a)=.done (putV d v env) S:=by
 have hb:=(h.ok i _ hi).2
 have:ldL gt env S false 1 (.hp id 0)=some v:=by
  simp only [ldL,ldC,hb,cut]
  show mkv false [v]=some v
  simp only [mkv,hn,cond_true,cond_false]
 simp only [stepO,ha,this,SR.val]
section
variable {gt:GT} {C:CallT}
theorem cmpS_wp {a c:List UInt8}:wpF gt C F145 [.str a,.str c] St.init (Ret (.int .i64 (cmpB a c))):=by
 refine⟨rfl,?_⟩
 refine goW ?_
 exact⟨_,rfl,Ret.sta trivial⟩
theorem compare_wp (hm:MonoC C) (h:∀a c,PF C 145 [.str a,.str c] (.int .i64 (cmpB a c))) {a c:List UInt8}:wpF gt C F104 [.str a,.str c] St.init (Ret (.int .i64 (cmpB a c))):=by
 refine⟨rfl,?_⟩
 refine goW ?_
 refine call_pf hm (by rfl) (h a c) (goW ?_)
 exact⟨_,rfl,Ret.sta trivial⟩
abbrev R_k (keys:List (List UInt8)):List Rs:=[.bx 0 22 [.sl 1 stat (strs keys)]]
set_option maxHeartbeats 2000000 in
theorem ord1_wp (hm:MonoC C) (h:∀a c,PF C 104 [.str a,.str c] (.int .i64 (cmpB a c))) {keys:List (List UInt8)} {S:St} {ty:TypeId} {t b:Nat} {l:List Nat} {i j:Nat} (hA:ArS S (R_k keys) ty t b l) (hi:i<keys.length) (hj:j<keys.length) :
  wpF gt C F113 [.int .i64 i,.int .i64 j,.ptr 0 0] S fun r S'=>r=.ret (.int .i64 (czK keys i j))∧S'=S:=by
 have ei:keys.getD i []=keys[i]:=by rw [List.getD_eq_getElem?_getD,gE hi];rfl
 have ej:keys.getD j []=keys[j]:=by rw [List.getD_eq_getElem?_getD,gE hj];rfl
 unfold czK
 rw [ei,ej]
 have si:=strs_at hi
 have sj:=strs_at hj
 generalize keys[i]=x at si
 generalize keys[j]=y at sj
 have li:i<(strs keys).length:=by rw [strs_length];exact hi
 have lj:j<(strs keys).length:=by rw [strs_length];exact hj
 refine⟨rfl,?_⟩
 refine goW ?_
 refine step_ruleDO rfl rfl (sx_ldBx hA 0 rfl rfl rfl) (goW ?_)
 refine step_ruleDO rfl rfl (sx_ia (k:=i) rfl rfl li) (goW ?_)
 refine step_ruleDO rfl rfl (sx_ldEl (agg:=false) rfl rfl si rfl) (goW ?_)
 refine step_ruleDO rfl rfl (sx_ldBx hA 0 rfl rfl rfl) (goW ?_)
 refine step_ruleDO rfl rfl (sx_ia (k:=j) rfl rfl lj) (goW ?_)
 refine step_ruleDO rfl rfl (sx_ldEl (agg:=false) rfl rfl sj rfl) (goW ?_)
 refine call_pfD hm (by rfl) (h x y) (goW ?_)
 exact⟨_,rfl,rfl,rfl⟩
def SstC (C:CallT) (R:List Rs) (ty:TypeId) (t b n:Nat) (g:AV) (cz:Nat→Nat→Int):Prop :=
 StbC C R ty t b n g cz 112 fun xs=>[slA t xs.length xs,g]
theorem sst_wp (hm:MonoC C) {R:List Rs} {ty:TypeId} {t b n:Nat} {f:FuncId} {cs:List AV} {cz:Nat→Nat→Int} (h:StbC C R ty t b n (.fn f [] cs) cz 150 fun xs=>[slA t xs.length xs,.int .i64 xs.length,.fn f [] cs]) {S:St} {xs:List AV} {L:List Nat} (hn:∀x∈L,x<n) (hx:xs.length=L.length) (hl:L.length<1152921504606846976) (hA:ArS S R ty t b L) :
  wpF gt C F112 [slA t xs.length xs,.fn f [] cs] S fun r S'=>r=.ret (.tup [])∧∃Z,Z.Perm L∧Srt (leZ cz) Z∧ArS S' R ty t b Z:=by
 refine⟨rfl,?_⟩
 refine goW ?_
 refine call_rule (by rfl) (hm _ _ _ _ _ (h S xs L hn hx hl hA) ?_)
 rintro r S2 ⟨rfl,Z,z1,z2,z3⟩
 refine goW ?_
 exact⟨_,rfl,rfl,Z,z1,z2,z3⟩
abbrev slN:AV:=.sl 1 ⟨none,0,some 0,false⟩ []
theorem ins0_wp {S:St} {g:AV}:wpF gt C F180 [slN,.int .i64 0,.int .i64 0,g] S fun r S'=>r=.ret (.tup [])∧S'=S:=by
 refine⟨rfl,?_⟩
 refine goW ?_
 refine⟨1,?_⟩
 refine goW ?_
 exact⟨_,rfl,rfl,rfl⟩
theorem stb0_wp (hm:MonoC C) {g:AV} (h:∀S,C 180 [slN,.int .i64 0,.int .i64 0,g] S fun r S'=>r=.ret (.tup [])∧S'=S) {S:St}:wpF gt C F150 [slN,.int .i64 0,g] S fun r S'=>r=.ret (.tup [])∧S'=S:=by
 refine⟨rfl,?_⟩
 refine goW ?_
 refine⟨1,?_⟩
 refine goW ?_
 refine call_rule (by rfl) (hm _ _ _ _ _ (h S) ?_)
 rintro r S2 ⟨rfl,rfl⟩
 refine goW ?_
 refine⟨1,?_⟩
 refine goW ?_
 exact⟨_,rfl,rfl,rfl⟩
theorem sst0_wp (hm:MonoC C) {g:AV} (h:∀S,C 150 [slN,.int .i64 0,g] S fun r S'=>r=.ret (.tup [])∧S'=S) {S:St}:wpF gt C F112 [slN,g] S fun r S'=>r=.ret (.tup [])∧S'=S:=by
 refine⟨rfl,?_⟩
 refine goW ?_
 refine call_rule (by rfl) (hm _ _ _ _ _ (h S) ?_)
 rintro r S2 ⟨rfl,rfl⟩
 refine goW ?_
 exact⟨_,rfl,rfl,rfl⟩
theorem order0_wp (hm:MonoC C) (h:∀S,C 112 [slN,.fn 113 [] [.ptr 0 0]] S fun r S'=>r=.ret (.tup [])∧S'=S):wpF gt C F64 [.sl 1 stat []] St.init (Ret (.sl 1 stat [])):=by
 refine⟨rfl,?_⟩
 refine goW ?_
 refine⟨1,?_⟩
 refine goW ?_
 refine call_rule (by rfl) (hm _ _ _ _ _ (h _) ?_)
 rintro r S2 ⟨rfl,rfl⟩
 refine goW ?_
 exact⟨_,rfl,_,rfl,by simp only [Rdo];exact⟨trivial,_,_,false,[],rfl,rfl,by simp only [Rdos]⟩⟩
abbrev E_or (t n i:Nat) (xs:List AV):Env:=[(1,.val (.ptr 0 0)),(3,.val (slA t n xs)),(9,.val (.int .i64 n)),(10,.val (.int .i64 i))]
theorem ints_zero (n:Nat):List.replicate n (.int .i64 0)=ints (List.replicate n 0):=by simp [ints]
set_option maxHeartbeats 4000000 in
theorem order_wp (hm:MonoC C) {keys:List (List UInt8)} (h:∀t b,SstC C (R_k keys) 3 t b keys.length (.fn 113 [] [.ptr 0 0]) (czK keys)) (hd:keys.Nodup) (h0:0<keys.length) (hl:keys.length<1099511627776) :
  wpF gt C F64 [.sl 1 stat (strs keys)] St.init (Ret (.sl 1 stat (ints (ordK keys)))):=by
 have sl:(strs keys).length=keys.length:=strs_length keys
 refine⟨rfl,?_⟩
 refine goW ?_
 have hb:=Hs.init.newBox 22 [.sl 1 stat (strs keys)]
 refine r_mks (n:=keys.length) (c:=keys.length) hb trivial (by rw [←sl];rfl) (by rw [←sl];rfl) (Nat.le_refl _) h0 (by omega) (by omega) rfl ?_
 intro t b S hS
 have hA:ArS S (R_k keys) 3 t b (List.replicate keys.length 0):=by
  unfold ArS
  rw [←ints_zero,List.append_nil]
  exact hS
 clear hS hb
 have hxl:(List.replicate keys.length (AV.int .i64 0)).length=keys.length:=List.length_replicate
 generalize List.replicate keys.length (AV.int .i64 0)=xs at hxl
 refine goW ?_
 rw [hxl]
 refine loop_rule hm (α:=Nat) (fun i env S'=>env=E_or t keys.length i xs∧i≤keys.length∧ArS S' (R_k keys) 3 t b (List.range i++List.replicate (keys.length-i) 0)) (fun i=>keys.length-i) ?_ (a:=0) ⟨rfl,Nat.zero_le _,by simpa using hA⟩
 clear hA
 rintro i env S' ⟨rfl,hi,hA⟩
 refine goW ?_
 by_cases c:(i:Int)<(keys.length:Int)
 ·rw [dT c]
  have hset:(List.range i++List.replicate (keys.length-i) 0).set i i=List.range (i+1)++List.replicate (keys.length-(i+1)) 0:=by
   obtain⟨m,hm⟩:∃m,keys.length-i=m+1:=⟨keys.length-i-1,by omega⟩
   rw [hm,List.replicate_succ,set_mid (by rw [List.length_range]),show keys.length-(i+1)=m by omega,List.range_succ,aA];rfl
  have hll:xs.length=(List.range i++List.replicate (keys.length-i) 0).length:=by rw [hxl,lA,List.length_range,List.length_replicate];omega
  refine goW ?_
  refine step_ruleO (sx_ia (k:=i) rfl rfl (by omega)) (goW ?_)
  refine st_runP (hA.st hll rfl rfl (by omega)) (by trivial) ?_
  intro S2 hA2
  rw [hset] at hA2
  refine goW ?_
  refine⟨i+1,⟨?_,by omega,hA2⟩,by omega⟩
  rw [wrNat (by omega)]
  try rfl
 ·rw [dF c]
  obtain rfl:i=keys.length:=by omega
  rw [Nat.sub_self,List.replicate_zero,List.append_nil] at hA
  have hcall:=h t b S' xs (List.range keys.length) (fun x hx=>List.mem_range.1 hx) (by rw [hxl,List.length_range]) (by rw [List.length_range];omega) hA
  simp only [hxl] at hcall
  refine goW ?_
  refine call_rule (by rfl) (hm _ _ _ _ _ hcall ?_)
  rintro r S2 ⟨rfl,Z,z1,z2,z3⟩
  rw [ordK_uniq hd z1 z2] at z3
  refine goW ?_
  exact⟨_,rfl,_,rfl,by simp only [Rdo];exact⟨trivial,_,_,false,_,rfl,z3.els (by rw [hxl,ordK_len]),Stas.rdos _ (by
   generalize ordK keys=l
   induction l with
   | nil=>trivial
   | cons a r ih=>exact⟨trivial,ih⟩)⟩⟩
end

section
variable {gt:GT} {C:CallT}
end
end Go.Dn

namespace Go.Dn
open Go Go.Proofs.C1
theorem unlike_nodup:∀{seen keys:List (List UInt8)},unlikeB seen keys=true→keys.Nodup∧∀x∈keys,x ∉ seen
 | _,[],_=>⟨List.nodup_nil,by simp⟩
 | seen,s::r,h=>by
  simp only [unlikeB] at h
  by_cases hs:s∈seen
  ·rw [if_pos hs] at h;cases h
  ·rw [if_neg hs,bA] at h
   obtain⟨a,b⟩:=unlike_nodup h.2
   refine⟨List.nodup_cons.2 ⟨fun hm=>b s hm (by simp),a⟩,fun x hx=>?_⟩
   rcases List.mem_cons.1 hx with rfl | hx
   ·exact hs
   ·exact fun hm=>b x hx (by simp [hm])
theorem formed_parts {k:Int} {s:List UInt8} {keys:List (List UInt8)} {kids:List PT} (h:formedB (.mk k s keys kids)=true) :
  formedBs kids=true∧(k=7→s=[]∧keys.length=kids.length∧keys.Nodup)∧(k≠7→keys=[])∧(k≠7→k≠6→kids=[])∧(k=6→s=[]):=by
 simp only [formedB,bA] at h
 obtain⟨h1,h2⟩:=h
 refine⟨h1,?_⟩
 unfold shapeB at h2
 by_cases k1:k=1
 ·rw [if_pos k1] at h2;simp only [bA,decide_eq_true_eq] at h2
  exact⟨fun e=>by omega,fun _=>nL h2.1.1,fun _ _=>nL h2.1.2,fun e=>by omega⟩
 rw [if_neg k1] at h2
 by_cases k2:k=2
 ·rw [if_pos k2] at h2;simp only [bA,decide_eq_true_eq] at h2
  exact⟨fun e=>by omega,fun _=>nL h2.1.1,fun _ _=>nL h2.1.2,fun e=>by omega⟩
 rw [if_neg k2] at h2
 by_cases k3:k=3
 ·rw [if_pos k3,bA,bA] at h2
  have a:=of_decide_eq_true h2.1.1
  have b:=of_decide_eq_true h2.1.2
  exact⟨fun e=>by omega,fun _=>nL a,fun _ _=>nL b,fun e=>by omega⟩
 rw [if_neg k3] at h2
 by_cases k4:k=4
 ·rw [if_pos k4,bA,bA] at h2
  have a:=of_decide_eq_true h2.1.1
  have b:=of_decide_eq_true h2.1.2
  exact⟨fun e=>by omega,fun _=>nL a,fun _ _=>nL b,fun e=>by omega⟩
 rw [if_neg k4] at h2
 by_cases k5:k=5
 ·rw [if_pos k5,bA,bA] at h2
  have a:=of_decide_eq_true h2.1.1
  have b:=of_decide_eq_true h2.1.2
  exact⟨fun e=>by omega,fun _=>nL a,fun _ _=>nL b,fun e=>by omega⟩
 rw [if_neg k5] at h2
 by_cases k6:k=6
 ·rw [if_pos k6,bA] at h2
  have b:=of_decide_eq_true h2.2
  exact⟨fun e=>by omega,fun _=>nL b,fun _ e=>absurd k6 e,fun _=>beqB_iff.1 h2.1⟩
 rw [if_neg k6] at h2
 by_cases k7:k=7
 ·rw [if_pos k7,bA,bA] at h2
  have a:=of_decide_eq_true h2.2.1
  exact⟨fun _=>⟨beqB_iff.1 h2.1,a,(unlike_nodup h2.2.2).1⟩,fun e=>absurd k7 e,fun e=>absurd k7 e,fun e=>absurd e k6⟩
 ·rw [if_neg k7] at h2;cases h2
theorem formedBs_get:∀{l:List PT} {i:Nat} (h:i<l.length),formedBs l=true→formedB l[i]=true
 | a::r,0,_,h=>by simp only [formedBs,bA] at h;exact h.1
 | a::r,i+1,hi,h=>by simp only [formedBs,bA] at h;exact formedBs_get (l:=r) (i:=i) (by simpa using hi) h.2
theorem PT.len_nsq:∀l:List PT,l.length≤PT.ns l
 | []=>Nat.le_refl _
 | t::r=>by have:=PT.n_pos t;have:=PT.len_nsq r;simp only [PT.ns,lC];omega
theorem getD_at {α:Type} {l:List α} {i:Nat} {z:α} (h:i<l.length):l.getD i z=l[i]:=by
 rw [List.getD_eq_getElem?_getD,gE h];rfl
end Go.Dn

namespace Go.Dn
open Go Go.Proofs.C1
set_option maxRecDepth 100000
attribute [local irreducible] afterS keepE
section
variable {gt:GT} {C:CallT}
end

section
variable {gt:GT} {C:CallT}
end

theorem ltB_cmp:∀a b:List UInt8,ltB a b=decide (cmpB a b<0)
 | [],[]=>rfl
 | _::_,[]=>rfl
 | [],_::_=>rfl
 | a::x,b::y=>by
  rw [ltB,cmpB_cons]
  by_cases h:a.toNat=b.toNat
  ·rw [if_pos h,h,Nat.beq_refl]
   have:Nat.blt b.toNat b.toNat=false:=by
    cases q:Nat.blt b.toNat b.toNat with
    | false=>rfl
    | true=>exact absurd (Nat.le_of_ble_eq_true q) (Nat.lt_irrefl _)
   rw [this]
   exact ltB_cmp x y
  ·have e:Nat.beq a.toNat b.toNat=false:=by
    cases q:Nat.beq a.toNat b.toNat with
    | false=>rfl
    | true=>exact absurd (bE q) h
   rw [if_neg h,e]
   by_cases k:a.toNat<b.toNat
   ·rw [if_pos k,show Nat.blt a.toNat b.toNat=true from Nat.ble_eq_true_of_le k];rfl
   ·have:Nat.blt a.toNat b.toNat=false:=by
     cases q:Nat.blt a.toNat b.toNat with
     | false=>rfl
     | true=>exact absurd (Nat.le_of_ble_eq_true q) k
    rw [if_neg k,this];rfl
def OwI (S:St) (R:List Rs) (ty:TypeId) (o:SI) (xs:List AV) (l:List Nat):Prop :=
 xs.length=l.length∧((xs=ints l∧Hs S (R++[.gr ty o xs]))∨∃t q b,o=⟨some (t,q),0,none,false⟩∧Hs S ((R++[.bx b ty ((ints l).flatMap AV.cells++[])])++[.mk t q b]))
section
variable {S:St} {R:List Rs} {ty:TypeId} {o:SI} {xs:List AV} {l:List Nat}
theorem OwI.els (h:OwI S R ty o xs l):elems S false 1 o xs=some (ints l):=by
 obtain⟨hx,h⟩:=h
 rcases h with⟨rfl,h⟩ | ⟨t,q,b,rfl,h⟩
 ·have hg:=h.ok R.length _ (by rw [List.getElem?_append_right (Nat.le_refl _),Nat.sub_self];rfl)
  rcases hg with⟨h1,_,_,h4⟩ | ⟨t,q,rfl,h1,h2,h5,h3,h4⟩
  ·unfold elems
   simp only [rd,h1]
  ·unfold elems
   simp only [rd,h3,h4]
 ·have hi:((R++[Rs.bx b ty ((ints l).flatMap AV.cells++[])])++[Rs.mk t q b])[R.length]? = some (.bx b ty ((ints l).flatMap AV.cells++[])):=by simp
  have hj:((R++[Rs.bx b ty ((ints l).flatMap AV.cells++[])])++[Rs.mk t q b])[R.length+1]? = some (.mk t q b):=by simp
  have:=arr_els h (i:=R.length) (j:=R.length+1) hi hj (ints_el l) (off:=0) (cap:=none) (nl:=false) (xs:=xs) (by rw [ints_len];omega)
  rw [List.drop_zero,hx,List.take_of_length_le (by rw [ints_len];omega)] at this
  exact this
theorem OwI.st (h:OwI S R ty o xs l) {gt:GT} {d:Option Nat} {env:Env} {a x:DOpd} {k v:Nat} (ha:loc env a=some (.el 1 o xs k 0)) (hv:opd env x=some (.int .i64 (v:Int))) (hk:k<l.length) :
  ∃S',stepO gt d env S (.st 1 a x)=.done (putV d .undef env) S'∧OwI S' R ty o xs (l.set k v):=by
 obtain⟨hx,h⟩:=h
 rcases h with⟨rfl,h⟩ | ⟨t,q,b,rfl,h⟩
 ·obtain⟨S',h1,t,q,b,h2,h3⟩:=gr_st (off:=0) (sz:=1) (v':=.int .i64 (v:Int)) h (fun y hy=>(ints_el l y hy).1) ha hv rfl (by rw [ints_len];exact hk) (Nat.le_refl 1) (by
   have hc:(ints l)[k]'(by rw [ints_len];omega)=.int .i64 ((l[k]:Nat):Int):=by simp [ints]
   rw [hc];rfl)
  rw [ints_set] at h3
  exact⟨S',h1,by rw [List.length_set];exact hx,.inr ⟨t,q,b,h2,h3⟩⟩
 ·have hi:((R++[Rs.bx b ty ((ints l).flatMap AV.cells++[])])++[Rs.mk t q b])[R.length]? = some (.bx b ty ((ints l).flatMap AV.cells++[])):=by simp
  have hj:((R++[Rs.bx b ty ((ints l).flatMap AV.cells++[])])++[Rs.mk t q b])[R.length+1]? = some (.mk t q b):=by simp
  obtain⟨S',h1,h2⟩:=arr_st h R.length (j:=R.length+1) hi hj (fun y hy=>(ints_el l y hy).1) (gt:=gt) (d:=d) (env:=env) (a:=a) (x:=x) (xs:=xs) (so:=0) (k:=k) (off:=0) (sz:=1) (cap:=none) (nl:=false) (v:=.int .i64 (v:Int)) (v':=.int .i64 (v:Int)) ha hv rfl (by omega) (by rw [ints_len];omega) (Nat.le_refl 1) (by
   have hc:(ints l)[0+k]'(by rw [ints_len];omega)=.int .i64 ((l[k]:Nat):Int):=by simp [ints]
   rw [hc];rfl)
  rw [Nat.zero_add,ints_set] at h2
  refine⟨S',h1,by rw [List.length_set];exact hx,.inr ⟨t,q,b,rfl,?_⟩⟩
  simpa using h2
end
section
variable {gt:GT} {C:CallT}
abbrev E_o1 (keys:List (List UInt8)) (o:SI) (l:List Nat) (i:Nat):Env:=[(0,.val (.sl 1 stat (strs keys))),(3,.val (.sl 1 o (ints l))),(4,.val (.int .i64 i))]
abbrev E_o2 (keys:List (List UInt8)) (o:SI) (xs:List AV) (i:Nat):Env:=[(0,.val (.sl 1 stat (strs keys))),(3,.val (.sl 1 o xs)),(5,.val (.int .i64 i))]
abbrev E_o3 (keys:List (List UInt8)) (o:SI) (xs:List AV) (i j:Nat):Env:=[(0,.val (.sl 1 stat (strs keys))),(3,.val (.sl 1 o xs)),(5,.val (.int .i64 i)),(6,.val (.int .i64 j))]
set_option maxHeartbeats 8000000 in
theorem order3_wp (hm:MonoC C) {keys:List (List UInt8)} (hd:keys.Nodup) (hl:keys.length<1099511627776) :
  wpF gt C F65 [.sl 1 stat (strs keys)] St.init (Ret (.sl 1 stat (ints (ordK keys)))):=by
 have sl:(strs keys).length=keys.length:=strs_length keys
 have hz:=czK_cz keys
 refine⟨rfl,?_⟩
 have hR:=Hs.init.addNil 3 true
 refine goW ?_
 refine loop_rule hm (α:=Nat) (fun i env S'=>i≤keys.length∧∃o,Hs S' [.gr 3 o (ints (List.range i))]∧env=E_o1 keys o (List.range i) i) (fun i=>keys.length-i) ?_ (a:=0) ⟨Nat.zero_le _,_,hR,rfl⟩
 rintro i env S' ⟨hi,o,hR,rfl⟩
 refine goW ?_
 by_cases hc:(i:Int)<(strs keys).length
 ·rw [dT hc]
  have hil:(ints (List.range i)).length=i:=by rw [ints_len,List.length_range]
  have hrs:ints (List.range (i+1))=ints (List.range i)++[.int .i64 i]:=by rw [List.range_succ];simp [ints]
  refine goW ?_
  obtain⟨hR,hsrc⟩:=hR.bldT 3 1
  refine r_app hR 0 rfl trivial rfl rfl (hsrc _ _ _) (by rw [hil];simp;omega) (by rw [hil];simp;omega) (by decide) (by decide) rfl ?_
  intro o3 S3 hR
  refine goW ?_
  refine⟨i+1,⟨by omega,o3,by rw [hrs];exact hR,?_⟩,by omega⟩
  rw [wrNat (by omega)]
  simp only [E_o1,hrs]
  try rfl
 rw [dF hc]
 obtain rfl:i=keys.length:=by omega
 have hO:OwI S' [] 3 o (ints (List.range keys.length)) (List.range keys.length):=⟨by rw [ints_len],.inl ⟨rfl,hR⟩⟩
 have hxl:(ints (List.range keys.length)).length=keys.length:=by rw [ints_len,List.length_range]
 generalize ints (List.range keys.length)=xs at hO hxl
 clear hR hi hc
 refine goW ?_
 refine loop_rule hm (α:=List Nat×List Nat×Nat) (fun a env S'=>env=E_o2 keys o xs a.2.2∧(a.2.2=a.1.length∨(a.2.1=[]∧keys.length≤a.2.2∧a.2.2≤keys.length+1))∧(a.1++a.2.1).Perm (List.range keys.length)∧Srt (leZ (czK keys)) a.1∧OwI S' [] 3 o xs (a.1++a.2.1)) (fun a=>keys.length+1-a.2.2) ?_
  (a:=((List.range keys.length).take 1,(List.range keys.length).drop 1,1)) ⟨rfl,?_,by rw [tkD],?_,by rw [tkD];exact hO⟩
 case refine_2 =>
  rcases Nat.eq_zero_or_pos keys.length with e | e
  ·right;rw [e];exact⟨rfl,by simp,by simp⟩
  ·left;simp only [lT,List.length_range];omega
 case refine_3 =>
  cases List.range keys.length with
  | nil=>exact List.Pairwise.nil
  | cons x r=>exact List.pairwise_singleton _ _
 clear hO
 rintro⟨Z,W,i⟩ env S' ⟨rfl,hi,hp,hs,hA⟩
 simp only at hi hp hs hA
 have hpl:=hp.length_eq
 rw [lA,List.length_range] at hpl
 have hmem:∀x∈Z++W,x<keys.length:=fun x hx=>List.mem_range.1 (hp.mem_iff.1 hx)
 refine goW ?_
 by_cases hc1:(i:Int)<(xs.length:Int)
 case neg =>
  rw [dF hc1]
  have hW:W=[]:=by
   rcases hi with h | ⟨h,_⟩
   ·exact nL (by omega)
   ·exact h
  subst hW
  rw [List.append_nil] at hA hp
  rw [ordK_uniq hd hp hs] at hA
  refine goW ?_
  exact⟨_,rfl,_,rfl,by simp only [Rdo];exact⟨trivial,_,_,false,_,rfl,hA.els,Stas.rdos _ (by
   generalize ordK keys=l
   induction l with
   | nil=>trivial
   | cons a r ih=>exact⟨trivial,ih⟩)⟩⟩
 rw [dT hc1]
 have hi':i=Z.length:=by
  rcases hi with h | ⟨h1,h2,h3⟩
  ·exact h
  ·omega
 cases W with
 | nil=>simp only [List.length_nil] at hpl;omega
 | cons x W' =>
 simp only [lC] at hpl
 have hxn:x<keys.length:=hmem x (by simp)
 refine goW ?_
 refine loop_rule hm (α:=List Nat×List Nat) (fun a env S'=>env=E_o3 keys o xs i a.1.length∧a.1++a.2=Z∧(∀u∈a.2,czK keys x u<0)∧OwI S' [] 3 o xs (a.1++(x::(a.2++W')))) (fun a=>a.1.length) ?_ (a:=(Z,[])) ⟨by rw [hi'],by simp,fun u hu=>by simp at hu,by simpa using hA⟩
 rintro⟨L,U⟩ env S2 ⟨rfl,hLU,hU,hA⟩
 simp only at hLU hU hA
 have hzl:=congrArg List.length hLU
 rw [lA] at hzl
 have done:(∀v,L[L.length-1]? = some v→0≤czK keys x v)→∃a:List Nat×List Nat×Nat,(E_o2 keys o xs (i+1)=E_o2 keys o xs a.2.2∧(a.2.2=a.1.length∨(a.2.1=[]∧keys.length≤a.2.2∧a.2.2≤keys.length+1))∧(a.1++a.2.1).Perm (List.range keys.length)∧Srt (leZ (czK keys)) a.1∧OwI S2 [] 3 o xs (a.1++a.2.1))∧keys.length+1-a.2.2<keys.length+1-i:=fun h=>by
  refine⟨(L++(x::U),W',i+1),⟨rfl,.inl (by simp only [lA,lC];omega),?_,?_,?_⟩,by simp only;omega⟩
  ·refine List.Perm.trans ?_ hp
   simp only
   rw [←hLU,aA,aA,List.cons_append]
   exact List.Perm.append_left L (List.perm_middle.symm)
  ·exact srt_ins hz (by rw [hLU];exact hs) hU h
  ·simpa only [aA,List.cons_append] using hA
 refine goW ?_
 rcases List.eq_nil_or_concat L with hL | ⟨L',v,hL⟩
 ·subst hL
  rw [dF (show ¬((([]:List Nat).length:Nat):Int) > 0 by simp)]
  have done:=done (fun v h=>by simp at h)
  refine goW ?_
  rw [wrNat (by omega)]
  exact done
 rw [List.concat_eq_append] at hL
 subst hL
 have hvl:(L'++[v]).length=L'.length+1:=by simp
 rw [hvl] at hzl
 have hvn:v<keys.length:=hmem v (by rw [←hLU];simp)
 have hA0:=hA
 have done:=fun (h:0≤czK keys x v)=>done (fun v' h'=>by
  rw [hvl,Nat.add_sub_cancel,get_mid rfl] at h'
  cases h';exact h)
 have e1:(L'++[v])++(x::(U++W'))=L'++(v::(x::(U++W'))):=by simp only [aA,List.cons_append,List.nil_append]
 have g1:((L'++[v])++(x::(U++W')))[L'.length]? = some v:=by rw [e1];exact get_mid rfl
 have g2:((L'++[v])++(x::(U++W')))[L'.length+1]? = some x:=get_mid hvl.symm
 have s1:((L'++[v])++(x::(U++W'))).set (L'.length+1) v=L'++(v::(v::(U++W'))):=by
  rw [set_mid hvl.symm]
  simp only [aA,List.cons_append,List.nil_append]
 have s2:(L'++(v::(v::(U++W')))).set L'.length x=L'++(x::((v::U)++W')):=by
  rw [set_mid rfl]
  simp only [List.cons_append]
 have hll:((L'++[v])++(x::(U++W'))).length=xs.length:=by simp only [lA,lC,List.length_nil];omega
 have hls:(L'++(v::(v::(U++W')))).length=xs.length:=by rw [←s1,List.length_set,hll]
 generalize hgl:(L'++[v])++(x::(U++W'))=l at hA g1 g2 s1 hll
 rw [hvl]
 have k1:L'.length<l.length:=by omega
 have k2:L'.length+1<l.length:=by omega
 have w1:wr .i64 (((L'.length+1:Nat):Int)-1)=((L'.length:Nat):Int):=by rw [wr64 (by omega) (by omega)];omega
 have sx:=strs_at hxn
 have sv:=strs_at hvn
 have hcz:czK keys x v=cmpB keys[x] keys[v]:=by unfold czK;rw [getD_at hxn,getD_at hvn]
 generalize keys[x]=kx at sx hcz
 generalize keys[v]=kv at sv hcz
 have hel:=hA.els
 rw [dT (show ((L'.length+1:Nat):Int) > 0 by omega)]
 refine goW ?_
 refine st_anyD (by exact rfl) rfl rfl (sx_ia (k:=L'.length+1) rfl rfl (by omega)) (goW ?_)
 refine st_anyD (by exact rfl) rfl rfl (sx_ldEl (agg:=false) rfl hel (ints_get g2) rfl) (goW ?_)
 refine st_anyD (by exact rfl) rfl rfl (sx_ia (k:=x) rfl rfl (by omega)) (goW ?_)
 refine st_anyD (by exact rfl) rfl rfl (sx_ldEl (agg:=false) rfl rfl sx rfl) (goW ?_)
 rw [w1]
 refine st_anyD (by exact rfl) rfl rfl (sx_ia (k:=L'.length) rfl rfl (by omega)) (goW ?_)
 refine st_anyD (by exact rfl) rfl rfl (sx_ldEl (agg:=false) rfl hel (ints_get g1) rfl) (goW ?_)
 refine st_anyD (by exact rfl) rfl rfl (sx_ia (k:=v) rfl rfl (by omega)) (goW ?_)
 refine st_anyD (by exact rfl) rfl rfl (sx_ldEl (agg:=false) rfl rfl sv rfl) (goW ?_)
 rw [ltB_cmp,←hcz]
 by_cases hlt:czK keys x v<0
 ·rw [dT hlt]
  refine goW ?_
  rw [w1]
  refine step_ruleDO rfl rfl (sx_ia (k:=L'.length) rfl rfl (by omega)) (goW ?_)
  refine step_ruleDO rfl rfl (sx_ldEl (agg:=false) rfl hel (ints_get g1) rfl) (goW ?_)
  refine step_ruleDO rfl rfl (sx_ia (k:=L'.length+1) rfl rfl (by omega)) (goW ?_)
  refine step_ruleDO rfl rfl (sx_ldEl (agg:=false) rfl hel (ints_get g2) rfl) (goW ?_)
  refine step_ruleDO rfl rfl (sx_ia (k:=L'.length+1) rfl rfl (by omega)) (goW ?_)
  refine st_runPD (hA.st rfl rfl k2) (by trivial) rfl rfl ?_
  intro S4 hA
  rw [s1] at hA
  refine goW ?_
  refine step_ruleDO rfl rfl (sx_ia (k:=L'.length) rfl rfl (by omega)) (goW ?_)
  refine st_runPD (hA.st rfl rfl (by omega)) (by trivial) rfl rfl ?_
  intro S5 hA
  rw [s2] at hA
  refine goW ?_
  rw [w1]
  refine⟨(L',v::U),⟨rfl,by rw [←hLU];simp,fun u hu=>?_,hA⟩,by simp only;omega⟩
  rcases List.mem_cons.1 hu with rfl | hu
  ·exact hlt
  ·exact hU u hu
 ·rw [dF hlt]
  have done:=done (by omega)
  refine goW ?_
  rw [wrNat (by omega)]
  exact done
end

section
variable {gt:GT} {C:CallT}
end

section
variable {gt:GT} {C:CallT}
end
end Go.Dn

namespace Go.Proofs.YthgidapmofcloaaGreatDoor.Fn
open Go.ChangeShapes Go.WideShapes Go.ChangeAt Go.RowKit Go.Dn
section
variable {R:List Rs} {ty:TypeId} {t b:Nat}
theorem swapC (g:AV):SwapC A R ty t b g:=fun S xs P X M Y Q a c n ha hc hn hx hl hxy hA=>by
 subst ha hc hn
 exact AC_intro Tryz.checked.mixed Tryz.func218 (by kernel_rfl) C1.F218_ok (swap_wp hm hx hl hxy hA)
theorem rotC (f:FuncId) (cs:List AV):RotC A R ty t b (.fn f [] cs):=fun S xs P X Y Q a m c ha hmm hc h1 h2 hx hl hA=>by
 subst ha hmm hc
 exact AC_intro Tryz.checked.mixed Tryz.func201 (by kernel_rfl) C1.F201_ok (rot_wp hm (swapC _) h1 h2 hx hl hA)
theorem insC {f:FuncId} {cs:List AV} {n:Nat} {cz:Nat→Nat→Int} (hz:Cz cz) (hc:CmpC A f cs R ty t b n cz):InsC A R ty t b n (.fn f [] cs) cz:=fun S xs P X Q a c ha hcc hX hx hl hA=>by
 subst ha hcc
 exact AC_intro Tryz.checked.mixed Tryz.func180 (by kernel_rfl) C1.F180_ok (ins_wp hm hz hc hX hx hl hA)
theorem mrgA {f:FuncId} {cs:List AV} {n:Nat} {cz:Nat→Nat→Int} (hz:Cz cz) (hc:CmpC A f cs R ty t b n cz):∀k,MrgC A R ty t b n (.fn f [] cs) cz k :=
 mrgC (gt:=gtT) hm (fun us S Q h=>AC_intro Tryz.checked.mixed Tryz.func181 (by kernel_rfl) C1.F181_ok h) hz hc (rotC f cs)
theorem stbC {f:FuncId} {cs:List AV} {n:Nat} {cz:Nat→Nat→Int} (hz:Cz cz) (hc:CmpC A f cs R ty t b n cz):StbC A R ty t b n (.fn f [] cs) cz 150 fun xs=>[slA t xs.length xs,.int .i64 xs.length,.fn f [] cs]:=fun S xs L hn hx hl hA =>
 AC_intro Tryz.checked.mixed Tryz.func150 (by kernel_rfl) C1.F150_ok (stb_wp hm (insC hz hc) (mrgA hz hc) hn hx hl hA)
theorem sstC {f:FuncId} {cs:List AV} {n:Nat} {cz:Nat→Nat→Int} (hz:Cz cz) (hc:CmpC A f cs R ty t b n cz):SstC A R ty t b n (.fn f [] cs) cz:=fun S xs L hn hx hl hA =>
 AC_intro Tryz.checked.mixed Tryz.func112 (by kernel_rfl) C1.F112_ok (sst_wp hm (stbC hz hc) hn hx hl hA)
end
theorem ins0 (g:AV) (S:St):A 180 [slN,.int .i64 0,.int .i64 0,g] S fun r S'=>r=.ret (.tup [])∧S'=S :=
 AC_intro Tryz.checked.mixed Tryz.func180 (by kernel_rfl) C1.F180_ok ins0_wp
theorem stb0 (g:AV) (S:St):A 150 [slN,.int .i64 0,g] S fun r S'=>r=.ret (.tup [])∧S'=S :=
 AC_intro Tryz.checked.mixed Tryz.func150 (by kernel_rfl) C1.F150_ok (stb0_wp hm (ins0 g))
theorem sst0 (g:AV) (S:St):A 112 [slN,g] S fun r S'=>r=.ret (.tup [])∧S'=S :=
 AC_intro Tryz.checked.mixed Tryz.func112 (by kernel_rfl) C1.F112_ok (sst0_wp hm (stb0 g))
theorem cmpS (a c:List UInt8):PF A 145 [.str a,.str c] (.int .i64 (cmpB a c)) :=
 pf Tryz.func145 (by kernel_rfl) C1.F145_ok (s2 trivial trivial) cmpS_wp
theorem compareS (a c:List UInt8):PF A 104 [.str a,.str c] (.int .i64 (cmpB a c)) :=
 pf Tryz.func104 (by kernel_rfl) C1.F104_ok (s2 trivial trivial) (compare_wp hm cmpS)
theorem ord1 (keys:List (List UInt8)) (ty:TypeId) (t b:Nat):CmpC A 113 [.ptr 0 0] (R_k keys) ty t b keys.length (czK keys):=fun S l i j hA hi hj =>
 AC_intro Tryz.checked.mixed Tryz.func113 (by kernel_rfl) C1.F113_ok (ord1_wp hm compareS hA hi hj)
theorem order (keys:List (List UInt8)) (hd:keys.Nodup) (hl:keys.length<1099511627776):PF A 64 [.sl 1 stat (strs keys)] (.sl 1 stat (ints (ordK keys))) :=
 pf Tryz.func64 (by kernel_rfl) C1.F64_ok (s1 (sK keys)) (by
  cases keys with
  | nil =>
   have e:ordK ([]:List (List UInt8))=[]:=nL (ordK_len [])
   rw [e]
   exact order0_wp hm (sst0 _)
  | cons k r=>exact order_wp hm (fun t b=>sstC (czK_cz _) (ord1 _ _ t b)) hd (by simp) hl)
theorem order3 (keys:List (List UInt8)) (hd:keys.Nodup) (hl:keys.length<1099511627776):PF A 65 [.sl 1 stat (strs keys)] (.sl 1 stat (ints (ordK keys))) :=
 pf Tryz.func65 (by kernel_rfl) C1.F65_ok (s1 (sK keys)) (order3_wp hm hd hl)
end Go.Proofs.YthgidapmofcloaaGreatDoor.Fn

namespace Go.Dn
open Go Go.Proofs.C1
set_option maxRecDepth 100000
attribute [local irreducible] afterS keepE
section
variable {gt:GT} {d:Option Nat} {env:Env} {S:St} {R:List Rs}
theorem sx_ldB0 (h:Hs S R) (i:Nat) {id:Nat} {ty:TypeId} {v w:AV} (hi:R[i]? = some (.bx id ty [v,w])) (hn:notAgg v=true) {a:DOpd} (ha:loc env a=some (.hp id 0)) :
  stepO gt d env S (.ld false 1 a)=.done (putV d v env) S:=by
 have hb:=(h.ok i _ hi).2
 have:ldL gt env S false 1 (.hp id 0)=some v:=by
  simp only [ldL,ldC,hb,cut]
  show mkv false [v]=some v
  simp only [mkv,hn,cond_true,cond_false]
 simp only [stepO,ha,this,SR.val]
theorem sx_ldB1 (h:Hs S R) (i:Nat) {id:Nat} {ty:TypeId} {v w:AV} (hi:R[i]? = some (.bx id ty [v,w])) (hn:notAgg w=true) {a:DOpd} (ha:loc env a=some (.hp id 1)) :
  stepO gt d env S (.ld false 1 a)=.done (putV d w env) S:=by
 have hb:=(h.ok i _ hi).2
 have:ldL gt env S false 1 (.hp id 1)=some w:=by
  simp only [ldL,ldC,hb,cut]
  show mkv false [w]=some w
  simp only [mkv,hn,cond_true,cond_false]
 simp only [stepO,ha,this,SR.val]
theorem st_B0 (h:Hs S R) (i:Nat) {id:Nat} {ty:TypeId} {v w v':AV} (hi:R[i]? = some (.bx id ty [v,w])) {a x:DOpd} (ha:loc env a=some (.hp id 0)) (hx:opd env x=some v') (hc:v'.cells=[v']) (ho:ok1 v'=true) :
  ∃S',stepO gt d env S (.st 1 a x)=.done (putV d .undef env) S'∧Hs S' (R.set i (.bx id ty [v',w])):=by
 have hb:=(h.ok i _ hi).2
 refine⟨_,?_,h.boxTo hi [v',w]⟩
 simp only [stepO,ha,hx,hc,stL,hb,List.all_cons,List.all_nil,ho]
 rfl
theorem st_B1 (h:Hs S R) (i:Nat) {id:Nat} {ty:TypeId} {v w v':AV} (hi:R[i]? = some (.bx id ty [v,w])) {a x:DOpd} (ha:loc env a=some (.hp id 1)) (hx:opd env x=some v') (hc:v'.cells=[v']) (ho:ok1 v'=true) :
  ∃S',stepO gt d env S (.st 1 a x)=.done (putV d .undef env) S'∧Hs S' (R.set i (.bx id ty [v,v'])):=by
 have hb:=(h.ok i _ hi).2
 refine⟨_,?_,h.boxTo hi [v,v']⟩
 simp only [stepO,ha,hx,hc,stL,hb,List.all_cons,List.all_nil,ho]
 rfl
theorem sx_cvU (h:Hs S R) (i:Nat) {id:Nat} {ty:TypeId} {v w:AV} (hi:R[i]? = some (.bx id ty [v,w])) {x:DOpd} (hx:opd env x=some (.ptr id 0)):stepO gt d env S (.cvU x)=.done (putV d (.ptr id 0) env) S:=by
 have hb:=(h.ok i _ hi).2
 simp only [stepO,hx,hb]
 rfl
theorem sx_cvP (h:Hs S R) (i:Nat) {id:Nat} {ty:TypeId} {v w:AV} (hi:R[i]? = some (.bx id ty [v,w])) {x:DOpd} (hx:opd env x=some (.ptr id 0)) {ok:List (TypeId×Nat×Nat)} (ho:ok.any (fun p=>Nat.beq p.1 ty && (Nat.beq p.2.1 0 && Nat.ble p.2.2 2))=true) :
  stepO gt d env S (.cvP ok x)=.done (putV d (.ptr id 0) env) S:=by
 have hb:=(h.ok i _ hi).2
 simp only [stepO,hx,hb,lC,List.length_nil,Nat.zero_add,Nat.reduceAdd,ho,cond_true]
theorem sx_nePtr {id:Nat} {x y:DOpd} (hx:opd env x=some (.ptr id 0)) (hy:opd env y=some (.ptr id 0)):stepO gt d env S (.bin .neq (some .ptr) x y)=.done (putV d (.bool false) env) S:=by
 simp only [stepO,hx,hy,binV,eqv,eqPtr,Nat.beq_refl,cond_true,Option.map_some,SR.val]
 rfl
end
theorem sx_ustr {gt:GT} {d:Option Nat} {env:Env} {S:St} {x y:DOpd} {t l n m:Nat} {ty:TypeId} {xs:List AV} {s:List UInt8} (hx:opd env x=some (.eptr 1 ⟨some (t,l),0,none,false⟩ xs 0 0)) (hy:opd env y=some (.int .i64 (Int.ofNat n))) (hn:n=xs.length) (hb:bytes? xs=some s) (hl:n≤17592186044416)
  (hr:rd S ⟨some (t,l),0,none,false⟩=.here) (ht:lk S.tip t=some (some (m,ty,false))):stepO gt d env S (.ustr ty x y)=.done (putV d (.str s) env) { S with tip:=(t,none)::S.tip }:=by
 have h3:Nat.ble n 17592186044416=true:=Nat.ble_eq_true_of_le hl
 simp only [stepO,hx,hy,hr,ht,Nat.beq_refl,←hn,h3,hb,Bool.and_true,cond_true]
abbrev R_b (id:Nat) (ty:TypeId) (p:AV) (o:SI) (acc:List UInt8):List Rs:=[.bx id ty [p,.sl 1 o (ofBytes acc)],.gr 5 o (ofBytes acc)]
def BS (S:St) (id:Nat) (ty:TypeId) (acc:List UInt8):Prop:=(ty=76∨ty=78)∧∃p o,(p=.nilp∨p=.ptr id 0)∧Hs S (R_b id ty p o acc)
section
variable {gt:GT} {C:CallT}
set_option maxHeartbeats 2000000 in
theorem copyCheck_wp (hm:MonoC C) {S:St} {id:Nat} {ty:TypeId} {acc:List UInt8} (h:BS S id ty acc):wpF gt C F159 [.ptr id 0] S fun r S'=>r=.ret (.tup [])∧∃o,Hs S' (R_b id ty (.ptr id 0) o acc):=by
 obtain⟨hty,p,o,hp,h⟩:=h
 refine⟨rfl,?_⟩
 rcases hp with rfl | rfl
 ·refine goW ?_
  refine step_ruleO (sx_ldB0 h 0 rfl rfl rfl) (goW ?_)
  refine step_ruleO (sx_cvU h 0 rfl rfl) (goW ?_)
  refine step_ruleO (sx_cvP h 0 rfl rfl (by rcases hty with rfl | rfl<;>rfl)) (goW ?_)
  refine st_runP (st_B0 h 0 rfl rfl rfl rfl rfl) (by trivial) ?_
  intro S2 h2
  refine goW ?_
  exact⟨_,rfl,rfl,o,h2⟩
 ·refine goW ?_
  refine step_ruleO (sx_ldB0 h 0 rfl rfl rfl) (goW ?_)
  refine step_ruleO (sx_ldB0 h 0 rfl rfl rfl) (goW ?_)
  refine step_ruleO (sx_nePtr rfl rfl) (goW ?_)
  exact⟨_,rfl,rfl,o,h⟩
set_option maxHeartbeats 2000000 in
theorem writeString_wp (hm:MonoC C) (hc:∀(S:St) (id:Nat) (ty:TypeId) (acc:List UInt8),BS S id ty acc→C 159 [.ptr id 0] S fun r S'=>r=.ret (.tup [])∧∃o,Hs S' (R_b id ty (.ptr id 0) o acc))
  {S:St} {id:Nat} {ty:TypeId} {acc s:List UInt8} (h:BS S id ty acc) (hl:acc.length+s.length<1099511627776) :
  wpF gt C F128 [.ptr id 0,.str s] S fun r S'=>r=.ret (.tup [.int .i64 s.length,.nilif])∧BS S' id ty (acc++s):=by
 have hc:=hc S id ty acc h
 obtain⟨hty,_⟩:=h
 have l1:=ofBytes_len acc
 have l2:=ofBytes_len s
 refine⟨rfl,?_⟩
 refine goW ?_
 refine call_rule (by rfl) (hm _ _ _ _ _ hc ?_)
 rintro r S2 ⟨rfl,o,h⟩
 refine goW ?_
 refine step_ruleO (sx_ldB1 h 0 rfl rfl rfl) (goW ?_)
 refine r_app h 1 rfl (by trivial) rfl rfl rfl (by rw [l1,l2];omega) (by rw [l1,l2];omega) (by decide) (by decide) (ofBytes_ok s) ?_
 intro o3 S3 h
 refine goW ?_
 refine st_runP (st_B1 h 0 rfl rfl rfl rfl rfl) (by trivial) ?_
 intro S4 h
 refine goW ?_
 refine⟨_,rfl,rfl,hty,.ptr id 0,o3,.inr rfl,?_⟩
 rw [show R_b id ty (.ptr id 0) o3 (acc++s)=[.bx id ty [.ptr id 0,.sl 1 o3 (ofBytes acc++ofBytes s)],.gr 5 o3 (ofBytes acc++ofBytes s)] by unfold R_b;rw [ofBytes_app]]
 exact h
set_option maxHeartbeats 2000000 in
theorem writeByte_wp (hm:MonoC C) (hc:∀(S:St) (id:Nat) (ty:TypeId) (acc:List UInt8),BS S id ty acc→C 159 [.ptr id 0] S fun r S'=>r=.ret (.tup [])∧∃o,Hs S' (R_b id ty (.ptr id 0) o acc))
  {S:St} {id:Nat} {ty:TypeId} {acc:List UInt8} {c:UInt8} (h:BS S id ty acc) (hl:acc.length<1099511627776) :
  wpF gt C F129 [.ptr id 0,.int .u8 c.toNat] S fun r S'=>r=.ret .nilif∧BS S' id ty (acc++[c]):=by
 have hc:=hc S id ty acc h
 obtain⟨hty,_⟩:=h
 have l1:=ofBytes_len acc
 refine⟨rfl,?_⟩
 refine goW ?_
 refine call_rule (by rfl) (hm _ _ _ _ _ hc ?_)
 rintro r S2 ⟨rfl,o,h⟩
 refine goW ?_
 refine step_ruleO (sx_ldB1 h 0 rfl rfl rfl) (goW ?_)
 obtain⟨h,hsrc⟩:=h.bldT 5 1
 refine r_app h 1 rfl trivial rfl rfl (hsrc _ _ _) (by rw [l1];simp;omega) (by rw [l1];simp;omega) (by decide) (by decide) rfl ?_
 intro o3 S3 h
 refine goW ?_
 refine st_runP (st_B1 h 0 rfl rfl rfl rfl rfl) (by trivial) ?_
 intro S4 h
 refine goW ?_
 refine⟨_,rfl,rfl,hty,.ptr id 0,o3,.inr rfl,?_⟩
 rw [show R_b id ty (.ptr id 0) o3 (acc++[c])=[.bx id ty [.ptr id 0,.sl 1 o3 (ofBytes acc++ofBytes [c])],.gr 5 o3 (ofBytes acc++ofBytes [c])] by unfold R_b;rw [ofBytes_app]]
 exact h
set_option maxHeartbeats 2000000 in
theorem bLen_wp {S:St} {id:Nat} {ty:TypeId} {acc:List UInt8} (h:BS S id ty acc):wpF gt C F48 [.ptr id 0] S fun r S'=>r=.ret (.int .i64 acc.length)∧S'=S:=by
 obtain⟨hty,p,o,hp,h⟩:=h
 have l1:=ofBytes_len acc
 refine⟨rfl,?_⟩
 refine goW ?_
 refine step_ruleO (sx_ldB1 h 0 rfl rfl rfl) (goW ?_)
 refine⟨_,rfl,?_,rfl⟩
 rw [l1]
set_option maxHeartbeats 2000000 in
theorem bString_wp {S:St} {id:Nat} {ty:TypeId} {acc:List UInt8} (h:BS S id ty acc) (h0:acc≠[]) (hl:acc.length≤17592186044416):wpF gt C F49 [.ptr id 0] S fun r S'=>r=.ret (.str acc):=by
 obtain⟨hty,p,o,hp,h⟩:=h
 have l1:=ofBytes_len acc
 obtain⟨a,r,rfl⟩:=List.exists_cons_of_ne_nil h0
 have hg:=h.ok 1 _ rfl
 have hbs:=bytes_of (a::r)
 rcases hg with⟨_,_,_,e⟩ | ⟨t,l,rfl,g1,g2,g3,g4,g5⟩
 ·cases e
 refine⟨rfl,?_⟩
 refine goW ?_
 refine step_ruleDO rfl rfl (sx_ldB1 h 0 rfl rfl rfl) (goW ?_)
 refine step_ruleDO rfl rfl (sx_ldB1 h 0 rfl rfl rfl) (goW ?_)
 refine step_ruleDO rfl rfl (sx_ustr rfl rfl rfl hbs (by rw [l1];exact hl) (RsOK.rd (.inr ⟨t,l,rfl,g1,g2,g3,g4,g5⟩)) g3) (goW ?_)
 exact⟨_,rfl,rfl⟩
end

def shortB (b:UInt8):UInt8:=if b=34∨b=92 then b else if b=8 then 98 else if b=9 then 116 else if b=10 then 110 else if b=12 then 102 else if b=13 then 114 else 0
def hexB (n:Nat):UInt8:=if n<10 then UInt8.ofNat (48+n) else UInt8.ofNat (87+n)
def escB (b:UInt8):List UInt8:=if shortB b≠0 then [92,shortB b] else if b.toNat<32∨b=127 then [92,117,48,48,hexB (b.toNat / 16),hexB (b.toNat % 16)] else [b]
def escs:List UInt8→List UInt8
 | []=>[]
 | b::r=>escB b++escs r
def quoteB (s:List UInt8):List UInt8:=34::escs s++[34]
theorem escB_len (b:UInt8):(escB b).length≤6:=by unfold escB;split<;>(try split)<;>simp
theorem escs_len:∀s:List UInt8,(escs s).length≤6*s.length
 | []=>Nat.le_refl _
 | b::r=>by have:=escB_len b;have:=escs_len r;simp only [escs,lA,lC];omega
theorem escs_app:∀a b:List UInt8,escs (a++b)=escs a++escs b
 | [],_=>rfl
 | x::r,b=>by simp only [List.cons_append,escs,escs_app r b,aA]
theorem quoteB_len (s:List UInt8):(quoteB s).length≤6*s.length+2:=by have:=escs_len s;simp only [quoteB,lA,lC,List.length_nil];omega
theorem u8_ne {b c:UInt8} (h:¬b=c):¬(b.toNat:Int)=c.toNat:=fun e=>h (UInt8.toNat_inj.1 (by omega))
theorem b_ne {b c:UInt8} {n:Int} (h:¬b=c) (e:(c.toNat:Int)=n):¬(b.toNat:Int)=n:=e ▸ u8_ne h
theorem and15_all:(List.range 256).all (fun n=>IntKind.i64.wrap ((BitVec.ofInt IntKind.i64.bits (n:Int) &&& BitVec.ofInt IntKind.i64.bits 15).toNat) == ((n % 16:Nat):Int))=true:=by kernel_rfl
theorem and15 {n:Nat} (h:n<256):IntKind.i64.wrap ((BitVec.ofInt IntKind.i64.bits (n:Int) &&& BitVec.ofInt IntKind.i64.bits 15).toNat)=((n % 16:Nat):Int):=by
 have:=List.all_eq_true.1 and15_all n (List.mem_range.2 h)
 simpa using this
theorem hexL {m:Nat} (h:m<16):([48,49,50,51,52,53,54,55,56,57,97,98,99,100,101,102]:List UInt8)[m]? = some (hexB m):=by
 have:(List.range 16).all (fun m=>([48,49,50,51,52,53,54,55,56,57,97,98,99,100,101,102]:List UInt8)[m]? == some (hexB m))=true:=by kernel_rfl
 have:=List.all_eq_true.1 this m (List.mem_range.2 h)
 simpa using this
section
variable {gt:GT} {C:CallT}
set_option maxHeartbeats 2000000 in
theorem short_wp {b:UInt8}:wpF gt C F130 [.int .u8 b.toNat] St.init (Ret (.int .u8 (shortB b).toNat)):=by
 have ret:∀{o:UInt8} {S:St},shortB b=o→Ret (.int .u8 (shortB b).toNat) (.ret (.int .u8 o.toNat)) S:=fun h=>by rw [h];exact Ret.sta trivial
 have hf:shortB b=if b=34∨b=92 then b else if b=8 then 98 else if b=9 then 116 else if b=10 then 110 else if b=12 then 102 else if b=13 then 114 else 0:=rfl
 generalize shortB b=res at ret hf ⊢
 refine⟨rfl,?_⟩
 refine goW ?_
 by_cases h1:b=34
 ·rw [eqI_true (show (b.toNat:Int)=34 by rw [h1];rfl)]
  refine goW ?_
  exact⟨_,rfl,ret (by rw [hf,if_pos (.inl h1)])⟩
 rw [eqI_false (b_ne (n:=34) h1 rfl)]
 refine goW ?_
 by_cases h2:b=92
 ·rw [eqI_true (show (b.toNat:Int)=92 by rw [h2];rfl)]
  refine goW ?_
  exact⟨_,rfl,ret (by rw [hf,if_pos (.inr h2)])⟩
 rw [eqI_false (b_ne (n:=92) h2 rfl)]
 rw [if_neg (by rintro (h | h);exact h1 h;exact h2 h)] at hf
 refine goW ?_
 by_cases h3:b=8
 ·rw [eqI_true (show (b.toNat:Int)=8 by rw [h3];rfl)]
  refine goW ?_
  exact⟨_,rfl,ret (o:=98) (by rw [hf,if_pos h3])⟩
 rw [eqI_false (b_ne (n:=8) h3 rfl)]
 rw [if_neg h3] at hf
 refine goW ?_
 by_cases h4:b=9
 ·rw [eqI_true (show (b.toNat:Int)=9 by rw [h4];rfl)]
  refine goW ?_
  exact⟨_,rfl,ret (o:=116) (by rw [hf,if_pos h4])⟩
 rw [eqI_false (b_ne (n:=9) h4 rfl)]
 rw [if_neg h4] at hf
 refine goW ?_
 by_cases h5:b=10
 ·rw [eqI_true (show (b.toNat:Int)=10 by rw [h5];rfl)]
  refine goW ?_
  exact⟨_,rfl,ret (o:=110) (by rw [hf,if_pos h5])⟩
 rw [eqI_false (b_ne (n:=10) h5 rfl)]
 rw [if_neg h5] at hf
 refine goW ?_
 by_cases h6:b=12
 ·rw [eqI_true (show (b.toNat:Int)=12 by rw [h6];rfl)]
  refine goW ?_
  exact⟨_,rfl,ret (o:=102) (by rw [hf,if_pos h6])⟩
 rw [eqI_false (b_ne (n:=12) h6 rfl)]
 rw [if_neg h6] at hf
 refine goW ?_
 by_cases h7:b=13
 ·rw [eqI_true (show (b.toNat:Int)=13 by rw [h7];rfl)]
  refine goW ?_
  exact⟨_,rfl,ret (o:=114) (by rw [hf,if_pos h7])⟩
 rw [eqI_false (b_ne (n:=13) h7 rfl)]
 rw [if_neg h7] at hf
 refine goW ?_
 exact⟨_,rfl,ret (o:=0) hf⟩
set_option maxHeartbeats 2000000 in
theorem tdigit_wp {n:Nat} (h:n<256):wpF gt C F131 [.int .i64 n] St.init (Ret (.int .u8 (hexB (n % 16)).toNat)):=by
 refine⟨rfl,?_⟩
 refine goW ?_
 rw [and15 h]
 refine step_ruleO (sx_ixS (k:=n % 16) rfl rfl (hexL (by omega))) (goW ?_)
 exact⟨_,rfl,Ret.sta trivial⟩
set_option maxHeartbeats 2000000 in
theorem hexR_wp {n:Nat} (h:n<16):wpF gt C F151 [.int .i64 n] St.init (Ret (.int .u8 (hexB n).toNat)):=by
 refine⟨rfl,?_⟩
 refine goW ?_
 by_cases c:(n:Int)<10
 ·rw [dT c]
  have e:hexB n=UInt8.ofNat (48+n):=by unfold hexB;rw [if_pos (by omega)]
  refine goW ?_
  rw [digByte (by omega),e]
  exact⟨_,rfl,Ret.sta trivial⟩
 ·rw [dF c]
  have e:hexB n=UInt8.ofNat (87+n):=by unfold hexB;rw [if_neg (by omega)]
  refine goW ?_
  rw [wr64 (n:=97+(n:Int)) (by omega) (by omega),wr64 (n:=97+(n:Int)-10) (by omega) (by omega),wr8 (by omega) (by omega),e]
  refine⟨_,rfl,?_⟩
  rw [show 97+(n:Int)-10=((UInt8.ofNat (87+n)).toNat:Int) by rw [UInt8.toNat_ofNat',Nat.mod_eq_of_lt (by omega)];omega]
  exact Ret.sta trivial
end

theorem hs_newB (ty:TypeId) (hty:ty=76∨ty=78):BS { St.init with nb:=St.init.nb+1,boxes:=(St.init.nb,some (ty,[.nilp,.sl 1 ⟨none,0,some 0,true⟩ []]))::St.init.boxes } 0 ty [] :=
 ⟨hty,.nilp,⟨none,0,some 0,true⟩,.inl rfl,(Hs.init.newBox ty [.nilp,.sl 1 ⟨none,0,some 0,true⟩ []]).addNil 5 true⟩
section
variable {gt:GT} {C:CallT}
abbrev E_qt (s:List UInt8) (i:Int):Env:=[(0,.val (.str s)),(4,.val (.ptr 0 0)),(13,.val (.int .i64 s.length)),(14,.val (.int .i64 i))]
set_option maxHeartbeats 8000000 in
theorem quote_wp (hm:MonoC C) (hv:∀s:List UInt8,s.length<4611686018427387904→PF C 82 [.str s] (.bool (validB s)))
  (hwb:∀(S:St) (id:Nat) (ty:TypeId) (acc:List UInt8) (c:UInt8),BS S id ty acc→acc.length<1099511627776→C 129 [.ptr id 0,.int .u8 c.toNat] S fun r S'=>r=.ret .nilif∧BS S' id ty (acc++[c]))
  (hws:∀(S:St) (id:Nat) (ty:TypeId) (acc s:List UInt8),BS S id ty acc→acc.length+s.length<1099511627776→C 128 [.ptr id 0,.str s] S fun r S'=>r=.ret (.tup [.int .i64 s.length,.nilif])∧BS S' id ty (acc++s))
  (hst:∀(S:St) (id:Nat) (ty:TypeId) (acc:List UInt8),BS S id ty acc→acc≠[]→acc.length≤17592186044416→C 49 [.ptr id 0] S fun r S'=>r=.ret (.str acc))
  (hsh:∀b:UInt8,PF C 130 [.int .u8 b.toNat] (.int .u8 (shortB b).toNat)) (hdg:∀n:Nat,n<256→PF C 131 [.int .i64 n] (.int .u8 (hexB (n % 16)).toNat))
  {s:List UInt8} (hl:s.length<4294967281):wpF gt C F80 [.str s] St.init (Ret (.tup [.str (if validB s=true then quoteB s else []),.int .i64 (if validB s=true then 0 else 10)])):=by
 have hv:=hv s (by omega)
 refine⟨rfl,?_⟩
 refine goW ?_
 refine call_pf hm (by rfl) hv ?_
 cases validB s with
 | false =>
  refine goW ?_
  exact⟨_,rfl,Ret.sta ⟨trivial,trivial,trivial⟩⟩
 | true =>
 refine goW ?_
 have hb:=hs_newB 76 (.inl rfl)
 have w:C 129 [.ptr 0 0,.int .u8 34] _ _:=hwb _ 0 _ [] 34 hb (by simp)
 refine call_rule (by rfl) (hm _ _ _ _ _ w ?_)
 rintro r S1 ⟨rfl,hb⟩
 refine goW ?_
 refine loop_rule hm (α:=Nat) (fun i env S'=>i≤s.length∧env=E_qt s i∧BS S' 0 76 (34::escs (s.take i))) (fun i=>s.length-i) ?_ (a:=0) ⟨Nat.zero_le _,rfl,by simpa [escs] using hb⟩
 clear hb w
 rintro i env S' ⟨hi,rfl,hb⟩
 have hal:=escs_len (s.take i)
 rw [lT] at hal
 refine goW ?_
 by_cases hc:(i:Int)<(s.length:Nat)
 case neg =>
  rw [dF hc]
  obtain rfl:i=s.length:=by omega
  rw [List.take_length] at hb hal
  have w:C 129 [.ptr 0 0,.int .u8 34] _ _:=hwb _ 0 _ _ 34 hb (by simp only [lC];omega)
  refine goW ?_
  refine call_rule (by rfl) (hm _ _ _ _ _ w ?_)
  rintro r S2 ⟨rfl,hb⟩
  have w:=hst _ 0 _ _ hb (by simp) (by simp only [lA,lC,List.length_nil];omega)
  refine goW ?_
  refine call_rule (by rfl) (hm _ _ _ _ _ w ?_)
  rintro r S3 rfl
  refine goW ?_
  exact⟨_,rfl,Ret.sta ⟨trivial,trivial,trivial⟩⟩
 rw [dT hc]
 have hik:i<s.length:=by omega
 have hbt:=u8_lt s[i]
 have hnx:34::escs (s.take (i+1))=(34::escs (s.take i))++escB s[i]:=by rw [tS hik,escs_app];simp [escs]
 have hgt:=gE hik
 have hle:escB s[i]=if shortB s[i]≠0 then [92,shortB s[i]] else if s[i].toNat<32∨s[i]=127 then [92,117,48,48,hexB (s[i].toNat / 16),hexB (s[i].toNat % 16)] else [s[i]]:=rfl
 have hacc:(34::escs (s.take i)).length<549755813888:=by simp only [lC];omega
 have next:∀{S2:St},BS S2 0 76 (34::escs (s.take (i+1)))→∃a:Nat,(a≤s.length∧E_qt s (i+1:Nat)=E_qt s a∧BS S2 0 76 (34::escs (s.take a)))∧s.length-a<s.length-i:=fun h=>⟨i+1,⟨by omega,rfl,h⟩,by omega⟩
 generalize 34::escs (s.take (i+1))=nx at hnx next
 generalize 34::escs (s.take i)=acc at hb hnx hacc
 generalize s[i]=b at hgt hnx hle hbt
 generalize escB b=es at hnx hle
 have hsh:=hsh b
 have d1:=hdg (b.toNat / 16) (by omega)
 have d2:=hdg b.toNat (by omega)
 rw [show b.toNat / 16 % 16=b.toNat / 16 by omega] at d1
 generalize shortB b=sb at hsh hle
 refine goW ?_
 refine step_ruleO (sx_ixS (k:=i) rfl rfl hgt) (goW ?_)
 refine call_pf hm (by rfl) hsh (goW ?_)
 by_cases z:sb=0
 case neg =>
  rw [neI_true (b_ne (n:=0) z rfl)]
  rw [if_pos z] at hle
  have w:C 129 [.ptr 0 0,.int .u8 92] _ _:=hwb _ 0 _ _ 92 hb (by omega)
  refine goW ?_
  refine call_rule (by rfl) (hm _ _ _ _ _ w ?_)
  rintro r S2 ⟨rfl,hb⟩
  have w:=hwb _ 0 _ _ sb hb (by simp only [lA,lC,List.length_nil];omega)
  refine goW ?_
  refine call_rule (by rfl) (hm _ _ _ _ _ w ?_)
  rintro r S3 ⟨rfl,hb⟩
  refine goW ?_
  rw [wrNat (by omega)]
  exact next (by rw [hnx,hle];simpa using hb)
 rw [neI_false (show (sb.toNat:Int)=0 by rw [z];rfl)]
 rw [if_neg (fun h=>h z)] at hle
 have e4:wr .i64 ((b.toNat:Int).fdiv (2 ^ (min (Int.toNat 4) (IntKind.bits .u8))))=((b.toNat / 16:Nat):Int):=by
  rw [show (2:Int) ^ (min (Int.toNat 4) (IntKind.bits .u8))=16 from rfl,Int.fdiv_eq_ediv_of_nonneg _ (by omega),wr64 (by omega) (by omega)]
  omega
 have e5:wr .i64 (b.toNat:Int)=(b.toNat:Nat):=wr64 (by omega) (by omega)
 refine goW ?_
 by_cases z2:b.toNat<32∨b=127
 ·rw [if_pos z2] at hle
  by_cases c1:(b.toNat:Int)<32
  case' pos=>rw [dT c1]
  case' neg =>
   rw [dF c1]
   refine goW ?_
   rw [eqI_true (show (b.toNat:Int)=127 by rcases z2 with h | h;omega;rw [h];rfl)]
  all_goals
   have w:=hws _ 0 _ _ [92,117,48,48] hb (by simp only [lC,List.length_nil];omega)
   refine goW ?_
   refine call_rule (by rfl) (hm _ _ _ _ _ w ?_)
   rintro r S2 ⟨rfl,hb⟩
   refine goW ?_
   rw [e4]
   refine call_pf hm (by rfl) d1 ?_
   have w:=hwb _ 0 _ _ (hexB (b.toNat / 16)) hb (by simp only [lA,lC,List.length_nil];omega)
   refine goW ?_
   refine call_rule (by rfl) (hm _ _ _ _ _ w ?_)
   rintro r S3 ⟨rfl,hb⟩
   refine goW ?_
   rw [e5]
   refine call_pf hm (by rfl) d2 ?_
   have w:=hwb _ 0 _ _ (hexB (b.toNat % 16)) hb (by simp only [lA,lC,List.length_nil];omega)
   refine goW ?_
   refine call_rule (by rfl) (hm _ _ _ _ _ w ?_)
   rintro r S4 ⟨rfl,hb⟩
   refine goW ?_
   rw [wrNat (by omega)]
   exact next (by rw [hnx,hle];simpa using hb)
 rw [if_neg z2] at hle
 rw [dF (show ¬(b.toNat:Int)<32 by omega)]
 refine goW ?_
 rw [eqI_false (b_ne (n:=127) (fun h=>z2 (.inr h)) rfl)]
 have w:=hwb _ 0 _ _ b hb (by omega)
 refine goW ?_
 refine call_rule (by rfl) (hm _ _ _ _ _ w ?_)
 rintro r S2 ⟨rfl,hb⟩
 refine goW ?_
 rw [wrNat (by omega)]
 exact next (by rw [hnx,hle];exact hb)
end
end Go.Dn

namespace Go.Dn
open Go Go.Proofs.C1
theorem norm_split {s:List UInt8} (h:(normB s).2=0):(splitB s).2=0∧normB s=joinB (splitB s).1:=by
 unfold normB at h ⊢
 by_cases z:(splitB s).2=0
 ·rw [if_pos z];exact⟨z,rfl⟩
 ·rw [if_neg z] at h;exact absurd h z
theorem formed_num {s:List UInt8} {keys:List (List UInt8)} {kids:List PT} (h:formedB (.mk 3 s keys kids)=true):(normB s).2=0∧(normB s).1=s:=by
 simp only [formedB,bA] at h
 have h2:=h.2
 unfold shapeB at h2
 rw [if_neg (by omega),if_neg (by omega),if_pos rfl,bA] at h2
 have h3:=h2.2
 rw [bA] at h3
 exact⟨of_decide_eq_true h3.1,beqB_iff.1 h3.2⟩
theorem unlike_iff:∀{keys seen:List (List UInt8)},unlikeB seen keys=true↔(∀x∈keys,validB x=true)∧keys.Nodup∧∀x∈keys,x ∉ seen
 | [],_=>by simp [unlikeB]
 | s::r,seen=>by
  simp only [unlikeB]
  by_cases hs:s∈seen
  ·rw [if_pos hs]
   exact⟨fun h=>(by cases h),fun h=>absurd hs (h.2.2 s (by simp))⟩
  ·rw [if_neg hs,bA,unlike_iff (keys:=r)]
   constructor
   ·rintro⟨v,a,b,c⟩
    refine⟨fun x hx=>?_,List.nodup_cons.2 ⟨fun hm=>c s hm (by simp),b⟩,fun x hx=>?_⟩
    ·rcases List.mem_cons.1 hx with rfl | hx
     ·exact v
     ·exact a x hx
    ·rcases List.mem_cons.1 hx with rfl | hx
     ·exact hs
     ·exact fun hm=>c x hx (by simp [hm])
   ·rintro⟨a,b,c⟩
    have b:=List.nodup_cons.1 b
    refine⟨a s (by simp),fun x hx=>a x (by simp [hx]),b.2,fun x hx hm=>?_⟩
    rw [List.mem_append,List.mem_singleton] at hm
    rcases hm with hm | rfl
    ·exact c x (by simp [hx]) hm
    ·exact b.1 hx
theorem map_range_getD {α:Type} {z:α} (l:List α):((List.range l.length).map fun i=>l.getD i z)=l:=by
 refine List.ext_getElem (by simp) fun i h1 h2=>?_
 rw [List.getElem_map,List.getElem_range,getD_at h2]
end Go.Dn

namespace Go.Dn
open Go Go.Proofs.C1
set_option maxRecDepth 100000
attribute [local irreducible] afterS keepE
section
variable {gt:GT} {C:CallT}
end

theorem formed_kind {k:Int} {s:List UInt8} {keys:List (List UInt8)} {kids:List PT} (h:formedB (.mk k s keys kids)=true):1≤k∧k≤7:=by
 simp only [formedB,bA] at h
 have h2:=h.2
 unfold shapeB at h2
 refine Decidable.byContradiction fun hc=>?_
 rw [if_neg (by omega),if_neg (by omega),if_neg (by omega),if_neg (by omega),if_neg (by omega),if_neg (by omega),if_neg (by omega)] at h2
 cases h2
section
variable {gt:GT} {C:CallT}
end

section
variable {gt:GT} {C:CallT}
end
end Go.Dn
