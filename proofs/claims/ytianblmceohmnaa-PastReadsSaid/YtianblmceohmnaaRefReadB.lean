/- The reference's Read, walked: who is done. -/
import Derived.Test.YtianblmceohmnaaRefReadA
namespace Go.Proofs.Ytianblmceohmnaa.Hand
open Go.RowKit Go.Maps Go.Proofs.Ytianblmceohmnaa.PAll Go.Proofs.YtianblmceohmnaaW.PrintWords Go.Proofs.YtianblmceohmnaaW.PrintLast Go.Proofs.YtianblmceohmnaaW.PrintMore Go.Proofs.MapF
set_option linter.unusedVariables false
set_option linter.unusedSimpArgs false
set_option maxRecDepth 100000
attribute [local go_sem high] eqA24

set_option maxHeartbeats 16000000 in
noncomputable def refReadB : (P : Prop) ×' (HeldP P → refReadA.1) := by
 apply PSigma.mk
 case snd =>
  intro rest_
  delta refReadA
  intro c0 l0 a1 w hc0 hlen HBD HLEN hu37 hu31 hu24 hu43 hu45 za1_ rb w1 gv w2 w3 za2_ za3_ wr u7 za4_ za5_ za6_ u11 u12 u13 u14 u15 za7_ za8_ za9_ za10_ za11_ za12_ za13_ za14_ za15_ za16_ za17_ za18_ za19_ za20_ za21_ za22_ za23_ za24_ za25_ za26_ za27_ za28_ za29_ za30_ za31_ za32_ za33_ za34_ za35_ za36_ za37_ za38_ za39_ za40_ za41_ za42_ za43_ za44_ za45_ za46_ za47_ za48_ za49_ za50_ za51_ za52_ za53_ za54_ za55_ za56_ za57_ za58_ za59_ za60_ za61_ za62_ za63_ za64_ za65_ za66_ za67_ za68_ za69_ za70_ za71_ za72_ za73_ za74_ za75_ za76_ za77_ za78_ za79_ za80_ za81_ za82_ za83_ za84_ za85_ za86_ za87_ za88_ za89_ za90_ za91_ za92_ za93_ za94_ za95_ za96_ za97_ za98_ za99_ za100_ za101_ za102_ za103_ za104_ za105_ za106_ za107_ za108_ za109_ za110_ za111_ za112_ za113_ za114_ za115_ za116_ za117_ za118_ za119_ za120_ za121_ za122_ za123_ za124_ za125_ za126_ za127_ za128_ za129_ za130_ za131_ za132_ za133_ za134_ za135_ za136_ za137_ za138_ za139_ za140_ za141_ za142_ za143_ za144_ za145_ za146_ za147_ za148_ za149_ za150_ za151_ za152_ za153_ za154_ za155_ za156_ za157_ za158_ za159_ za160_ za161_ za162_ za163_ za164_ za165_ za166_ za167_ za168_ za169_ za170_ za171_ za172_ za173_ za174_ za175_ za176_ za177_ za178_ za179_ za180_ za181_ za182_ za183_ za184_ za185_ za186_ za187_ za188_ i lv dv pv gko za189_ hi x hlt ad HR za190_ HX HG L' D' P' HL1 HD1 HP1 L D P HVD HVP HLN HRP za191_ za192_ xb w5 hgs w6 w7 za193_ za194_ w8 wc u8 u9 u10 u24 u25 u26 u27 u28 u29 u30 u31 u32 u33 u34 u35 u36 u37 u38 u39 u40 u41 u42 u43 u44 u45 u46 u47 u48 u49 u50 u51 u52 u53 u54 u55 u56 u57 u58 u59 u60 u61 u62 u63 u64 u65 u66 u67 u68 u69 u70 u71 u72 u73 u74 u75 u76 u77 u78 u79 u80 u81 u82 u83 u84 u85 u86 u87 u88 u89 u90 u91 u92 u93 u94 u95 u96 u97 u98 u99 u100 u101 u102 u103 u104 u105 u106 u107 u108 u109 u110 u111 u112 u113 u114 u115 u116 u117 u118 u119 u120 u121 u122 u123 u124 u125 u126 u127 u128 u129 u130 u131 u132 u133 u134 u135 u136 u137 u138 u139 u140 u141 u142 u143 u144 u145 u146 u147 u148 u149 u150 u151 u152 u153 u154 u155 u156 u157 u158 u159 u160 u161 u162 u163 u164 u165 u166 u167 u168 u169 u170 u171 u172 u173 u174 u175 u176 u177 u178 u179 u180 u181 u182 u183 u184 u185 u186 u187 u188 u189 u190 u191 u192 u193 u194 u195 u196 u197 u198 u199 u200 u201 u202 u203 lv' HS9 HB9
  obtain ⟨d0, d1, d2, d3, d4, d5, d6, d7, d8, d9, d10, d11, d12⟩ := box31 (x := x) rfl HB9.out
  go_upto_if 110 with fail
  go_cut [] (fun wx => ∃ dv', Aside0 (Rf w wx gv rb lv' dv' pv L' D' P) ∧ Aside0 (wx.heap[xb]? = some (.cells (vs31 x) 31 (0, 0))))
  case first =>
    clear d0 d1 d2 d3 d4 d5 d6 d7 d8 d9 d10 d11 d12 HVP HRP
    cases h3 : (x.f0 == 3) with
    | false =>
      have HD : Aside0 (D' = D) := ⟨by rw [HVD.out, h3]; rfl⟩
      go_wp2_with fail
      go_meet
      case rel => exact ⟨_, ⟨by rw [HD.out]; exact HS9.out⟩, HB9⟩
    | true =>
      have HD : Aside0 (D' = if !hasT D x.f1 then D ++ [x.f1] else D) := ⟨by rw [HVD.out, h3]; rfl⟩
      clear HVD
      go_wp2_with fail
      go_loopg [11, 12] (D.length) (fun kq bv kv wr => ∃ (k : Nat) (b : Bool), k + kq = D.length ∧ bv = .bool b ∧ kv = .int .i64 k ∧ Aside0 (b = hasT (D.take k) x.f1) ∧ Aside0 (Rf w wr gv rb lv' dv pv L' D P) ∧ Aside0 (wr.heap[xb]? = some (.cells (vs31 x) 31 (0, 0))))
      case atStart => exact ⟨0, false, by omega, rfl, rfl, ⟨rfl⟩, HS9, HB9⟩
      case round =>
        clear HS9 HB9
        obtain ⟨k, b, hk, rfl, rfl, HF, HS9, HB9⟩ := hrel
        obtain ⟨A5, cp5, e5⟩ := slice_of HS9.out.d
        subst e5
        have g1 : wr.cell? ⟨gv, 1, none⟩ = some (.slice A5 D.length cp5) := (blk_cell HS9.out.v 1).trans rfl
        obtain ⟨d0, d1, d2, d3, d4, _⟩ := box31 (x := x) rfl HB9.out
        cases gk with
        | zero =>
          obtain rfl : k = D.length := by omega
          have hF := HF.out
          rw [List.take_length] at hF
          have HD2 : Aside0 (D' = if !b then D ++ [x.f1] else D) := ⟨by rw [HD.out, hF]⟩
          clear hF HD HF
          have GVX := Aside0.mk (show xb ≠ gv from fun e => by have h1 := HS9.out.v; have h2 := HB9.out; rw [← e, h2] at h1; injection h1 with h1; injection h1 with _ h1; exact absurd h1 (by decide))
          cases b with
          | true =>
            go_wp2_with fail
            go_meet
            case rel => exact ⟨_, ⟨by rw [HD2.out]; exact HS9.out⟩, HB9⟩
          | false =>
            obtain ⟨i0, hi0, hz0, hz1, hz2⟩ := info24'
            have hLL := HLN.out.2.1
            go_wp2_with (at_builtin; refine wpList_append_lies _ rfl (.tmp 132) (.tmp 135) 34 rfl w.heap.size 24 i0 _ 3 24 Try.underlying34 hi0 hz0 hz1 hz2 rfl (by decide) _ D.length (rows24 D) rfl (HS9.out.d.alloc _) ⟨_, 0, none⟩ 1 1 (cells24 x.f1) rfl rfl (cells24_new _ x.f1) (cells24_one x.f1) (by decide) (by unfold maxLen; omega) (by omega) (by have := HS9.out.below.size; simp; omega) _ rfl ?_; intro g cap w10 hown hgrow hat hltg; have HQ := Aside0.mk (HS9.out.appD (t := x.f1) hown hgrow); have HX10 := Aside0.mk (blk_other (t := 24) (blk_alloc HB9.out _) hgrow (fun k e => own_typed (HS9.out.d.alloc _) k e) (fun _ e => by cases e)); have g2 : w10.cell? ⟨gv, 1, none⟩ = some (.slice A5 D.length cp5) := (blk_cell HQ.out.1 1).trans rfl; have f2 := blk_frozen HQ.out.1 1; clear hown hgrow hat hltg g1 d0 d1 d2 d3 d4)
            go_meet
            case rel => exact ⟨_, ⟨by rw [HD2.out]; exact HQ.out.2⟩, ⟨blk_far HX10.out GVX.out _⟩⟩
        | succ gk =>
          obtain ⟨z, hz⟩ : ∃ z, D[k]? = some z := ⟨D[k]'(by omega), List.getElem?_eq_getElem _⟩
          obtain ⟨ad5, e5, a0, a1', a2⟩ := at_T24 (C24 HS9.out.d).2.2 (k : Int) (by omega) (by omega)
          have hrd : rd_T24 D (k : Int) = z := by simp [rd_T24, List.getD, hz]
          simp only [hrd, Int.toNat_natCast] at a0 a1' a2
          subst e5
          have HZ := Aside0.mk (show hasT (D.take (k + 1)) x.f1 = (hasT (D.take k) x.f1 || (z.f0 == x.f1.f0 && (z.f1 == x.f1.f1 && (z.f2 == x.f1.f2)))) by
            rw [List.take_add_one, hz]
            unfold hasT
            simp only [Option.toList_some, List.any_append, List.any_cons, List.any_nil, Bool.or_false]
            congr 1
            rw [Bool.eq_iff_iff, eq24_iff]
            exact ⟨fun h => by rw [h]; simp, fun h => ((eq24_iff z x.f1).1 h).symm⟩)
          clear hz hrd
          cases b with
          | true =>
            go_upto_region 30 with fail
            go_region
            go_wp2_with fail
            go_roundg gk
            case measure => omega
            case rel => exact ⟨k + 1, true, by omega, rfl, congrArg (Value.int .i64) (wrap_succ' (by have := HLN.out.2.1; omega)), ⟨by rw [HZ.out, ← HF.out]; rfl⟩, ⟨by first | exact HS9.out | exact HS9.out.drew⟩, ⟨by first | exact HB9.out | exact blk_drew HB9.out⟩⟩
          | false =>
            go_upto_region 30 with fail
            go_region
            go_wp2_with fail
            go_roundg gk
            case measure => omega
            case rel => exact ⟨k + 1, _, by omega, rfl, congrArg (Value.int .i64) (wrap_succ' (by have := HLN.out.2.1; omega)), ⟨by rw [HZ.out, ← HF.out, Bool.false_or]⟩, ⟨by first | exact HS9.out | exact HS9.out.drew⟩, ⟨by first | exact HB9.out | exact blk_drew HB9.out⟩⟩
  case rest =>
    obtain ⟨dv', HS10, HB10⟩ := hcut
    clear HS9 HB9 HVD d0 d1 d2 d3 d4 d5 d6 d7 d8 d9 d10 d11 d12
    rename_i zb1_ zb2_ zb3_ zb4_ zb5_ zb6_ zb7_ zb8_ zb9_ zb10_ zb11_ zb12_ zb13_ zb14_ zb15_ zb16_ zb17_ zb18_ zb19_ zb20_ zb21_ zb22_ zb23_ zb24_ zb25_ zb26_ zb27_ zb28_ zb29_ zb30_ zb31_ zb32_ zb33_ zb34_ zb35_ zb36_ zb37_ zb38_ zb39_ zb40_ zb41_ zb42_ zb43_ zb44_ zb45_ zb46_ zb47_ zb48_ zb49_ zb50_ zb51_ zb52_ zb53_ zb54_ zb55_ zb56_ zb57_ zb58_ zb59_ zb60_ zb61_ zb62_ zb63_ zb64_ zb65_ zb66_ zb67_ zb68_ zb69_ zb70_ zb71_ zb72_ zb73_ zb74_ zb75_ zb76_ zb77_ zb78_ zb79_ zb80_ zb81_ zb82_ zb83_ zb84_ zb85_ zb86_ zb87_ zb88_ zb89_ zb90_ zb91_ zb92_ zb93_ zb94_ zb95_ zb96_ zb97_ zb98_ zb99_ zb100_ zb101_ zb102_ zb103_ zb104_ zb105_ zb106_ zb107_ zb108_ zb109_ zb110_ zb111_ zb112_ zb113_ zb114_ zb115_ zb116_ zb117_ zb118_ zb119_ zb120_ zb121_ zb122_ zb123_ zb124_ zb125_ zb126_ zb127_ zb128_ zb129_ zb130_ zb131_ zb132_ zb133_ zb134_ zb135_ zb136_ zb137_ zb138_ zb139_ zb140_ zb141_ zb142_ zb143_ zb144_ zb145_ zb146_ zb147_ zb148_ zb149_ zb150_ zb151_ zb152_ zb153_ zb154_ zb155_ zb156_ zb157_ zb158_ zb159_ zb160_ zb161_ zb162_ zb163_ zb164_ zb165_ zb166_ zb167_ zb168_ zb169_ zb170_ zb171_ zb172_ zb173_ zb174_ zb175_ zb176_ zb177_ zb178_ zb179_ zb180_ zb181_ zb182_ zb183_ zb184_ zb185_
    revert c0 l0 a1 w hc0 hlen HBD HLEN hu37 hu31 hu24 hu43 hu45 za1_ rb w1 gv w2 w3 za2_ za3_ wr u7 za4_ za5_ za6_ zb1_ zb2_ u13 u14 u15 za7_ za8_ za9_ za10_ za11_ za12_ za13_ za14_ za15_ za16_ za17_ za18_ za19_ za20_ za21_ za22_ za23_ za24_ za25_ za26_ za27_ za28_ za29_ za30_ za31_ za32_ za33_ za34_ za35_ za36_ za37_ za38_ za39_ za40_ za41_ za42_ za43_ za44_ za45_ za46_ za47_ za48_ za49_ za50_ za51_ za52_ za53_ za54_ za55_ za56_ za57_ za58_ za59_ za60_ za61_ za62_ za63_ za64_ za65_ za66_ za67_ za68_ za69_ za70_ za71_ za72_ za73_ za74_ za75_ za76_ za77_ za78_ za79_ za80_ za81_ za82_ za83_ za84_ za85_ za86_ za87_ za88_ za89_ za90_ za91_ za92_ za93_ za94_ za95_ za96_ za97_ za98_ za99_ za100_ za101_ za102_ za103_ za104_ za105_ za106_ za107_ za108_ za109_ za110_ za111_ za112_ za113_ za114_ za115_ za116_ za117_ za118_ za119_ za120_ za121_ za122_ za123_ za124_ za125_ za126_ za127_ za128_ za129_ za130_ za131_ za132_ za133_ za134_ za135_ za136_ za137_ za138_ za139_ za140_ za141_ za142_ za143_ za144_ za145_ za146_ za147_ za148_ za149_ za150_ za151_ za152_ za153_ za154_ za155_ za156_ za157_ za158_ za159_ za160_ za161_ za162_ za163_ za164_ za165_ za166_ za167_ za168_ za169_ za170_ za171_ za172_ za173_ za174_ za175_ za176_ za177_ za178_ za179_ za180_ za181_ za182_ za183_ za184_ za185_ za186_ za187_ za188_ i lv dv pv gko za189_ hi x hlt ad HR za190_ HX HG L' D' P' HL1 HD1 HP1 L D P HVP HLN HRP za191_ za192_ xb w5 hgs w6 w7 w8 zb3_ u8 u9 u10 zb4_ zb5_ zb6_ zb7_ zb8_ zb9_ zb10_ zb11_ zb12_ zb13_ zb14_ zb15_ zb16_ zb17_ zb18_ zb19_ zb20_ zb21_ zb22_ zb23_ zb24_ zb25_ zb26_ zb27_ zb28_ zb29_ zb30_ zb31_ zb32_ zb33_ zb34_ zb35_ zb36_ zb37_ zb38_ zb39_ zb40_ zb41_ zb42_ zb43_ zb44_ zb45_ zb46_ zb47_ zb48_ zb49_ zb50_ zb51_ zb52_ zb53_ zb54_ zb55_ zb56_ zb57_ zb58_ zb59_ zb60_ zb61_ zb62_ zb63_ zb64_ zb65_ zb66_ zb67_ zb68_ zb69_ zb70_ zb71_ zb72_ zb73_ zb74_ zb75_ zb76_ zb77_ zb78_ zb79_ zb80_ zb81_ zb82_ zb83_ zb84_ zb85_ zb86_ zb87_ zb88_ zb89_ zb90_ zb91_ zb92_ zb93_ zb94_ zb95_ zb96_ zb97_ zb98_ zb99_ zb100_ zb101_ zb102_ zb103_ zb104_ zb105_ zb106_ zb107_ zb108_ zb109_ zb110_ zb111_ zb112_ zb113_ zb114_ zb115_ zb116_ zb117_ zb118_ zb119_ zb120_ zb121_ zb122_ zb123_ zb124_ zb125_ zb126_ zb127_ zb128_ zb129_ zb130_ zb131_ zb132_ zb133_ zb134_ zb135_ zb136_ zb137_ zb138_ zb139_ zb140_ zb141_ zb142_ zb143_ zb144_ zb145_ zb146_ zb147_ zb148_ zb149_ zb150_ zb151_ zb152_ zb153_ zb154_ zb155_ zb156_ zb157_ zb158_ zb159_ zb160_ zb161_ zb162_ zb163_ zb164_ zb165_ zb166_ zb167_ zb168_ zb169_ zb170_ zb171_ zb172_ zb173_ zb174_ zb175_ zb176_ zb177_ zb178_ zb179_ zb180_ zb181_ zb182_ zb183_ lv' zb184_ zb185_ wc u11 u12 u24 u25 u26 u27 u28 u29 u30 u31 u32 u33 u34 u35 u36 u37 u38 u39 u40 u41 u42 u43 u44 u45 u46 u47 u48 u49 u50 u51 u52 u53 u54 u55 u56 u57 u58 u59 u60 u61 u62 u63 u64 u65 u66 u67 u68 u69 u70 u71 u72 u73 u74 u75 u76 u77 u78 u79 u80 u81 u82 u83 u84 u85 u86 u87 u88 u89 u90 u91 u92 u93 u94 u95 u96 u97 u98 u99 u100 u101 u102 u103 u104 u105 u106 u107 u108 u109 u110 u111 u112 u113 u114 u115 u116 u117 u118 u119 u120 u121 u122 u123 u124 u125 u126 u127 u128 u129 u130 u131 u132 u133 u134 u135 u136 u137 u138 u139 u140 u141 u142 u143 u144 u145 u146 u147 u148 u149 u150 u151 u152 u153 u154 u155 u156 u157 u158 u159 u160 u161 u162 u163 u164 u165 u166 u167 u168 u169 u170 u171 u172 u173 u174 u175 u176 u177 u178 u179 u180 u181 u182 u183 u184 u185 u186 u187 u188 u189 u190 u191 u192 u193 u194 u195 u196 u197 u198 u199 u200 u201 u202 u203 dv' HS10 HB10
    exact rest_.out
end Go.Proofs.Ytianblmceohmnaa.Hand
