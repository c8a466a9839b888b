/- Facts of the types of this program (for the law Vf). -/
import Derived.Test.YtofmaoickidjcaaProg
import Derived.Test.YtofmaoickidjcaaVfZl
set_option linter.all false
namespace Go.Proofs.Ytofmaoickidjcaa
open Go Go.Sx
set_option maxHeartbeats 400000
set_option maxRecDepth 4000
theorem Try.TF1 : TF Try.prog 1 false 1 := ⟨Try.isAgg1, Try.sizeOf1⟩
theorem Try.TF2 : TF Try.prog 2 false 1 := ⟨Try.isAgg2, Try.sizeOf2⟩
theorem Try.TF3 : TF Try.prog 3 false 1 := ⟨Try.isAgg3, Try.sizeOf3⟩
theorem Try.TF4 : TF Try.prog 4 false 1 := ⟨Try.isAgg4, Try.sizeOf4⟩
theorem Try.TF5 : TF Try.prog 5 false 1 := ⟨Try.isAgg5, Try.sizeOf5⟩
theorem Try.TF6 : TF Try.prog 6 false 1 := ⟨Try.isAgg6, Try.sizeOf6⟩
theorem Try.TF7 : TF Try.prog 7 true 4 := ⟨Try.isAgg7, Try.sizeOf7⟩
theorem Try.TF8 : TF Try.prog 8 true 4 := ⟨Try.isAgg8, Try.sizeOf8⟩
theorem Try.TF9 : TF Try.prog 9 false 1 := ⟨Try.isAgg9, Try.sizeOf9⟩
theorem Try.TF10 : TF Try.prog 10 false 1 := ⟨Try.isAgg10, Try.sizeOf10⟩
theorem Try.TF11 : TF Try.prog 11 false 1 := ⟨Try.isAgg11, Try.sizeOf11⟩
theorem Try.TF12 : TF Try.prog 12 false 1 := ⟨Try.isAgg12, Try.sizeOf12⟩
theorem Try.TF13 : TF Try.prog 13 true 2 := ⟨Try.isAgg13, Try.sizeOf13⟩
theorem Try.TF14 : TF Try.prog 14 true 2 := ⟨Try.isAgg14, Try.sizeOf14⟩
theorem Try.TF15 : TF Try.prog 15 false 1 := ⟨Try.isAgg15, Try.sizeOf15⟩
theorem Try.TF16 : TF Try.prog 16 false 1 := ⟨Try.isAgg16, Try.sizeOf16⟩
theorem Try.TF17 : TF Try.prog 17 false 1 := ⟨Try.isAgg17, Try.sizeOf17⟩
theorem Try.TF18 : TF Try.prog 18 true 1 := ⟨Try.isAgg18, Try.sizeOf18⟩
theorem Try.TF19 : TF Try.prog 19 true 1 := ⟨Try.isAgg19, Try.sizeOf19⟩
theorem Try.TF20 : TF Try.prog 20 false 1 := ⟨Try.isAgg20, Try.sizeOf20⟩
theorem Try.TF21 : TF Try.prog 21 false 1 := ⟨Try.isAgg21, Try.sizeOf21⟩
theorem Try.TF22 : TF Try.prog 22 false 1 := ⟨Try.isAgg22, Try.sizeOf22⟩
theorem Try.TF23 : TF Try.prog 23 false 1 := ⟨Try.isAgg23, Try.sizeOf23⟩
theorem Try.TF24 : TF Try.prog 24 false 1 := ⟨Try.isAgg24, Try.sizeOf24⟩
theorem Try.TF25 : TF Try.prog 25 true 8 := ⟨Try.isAgg25, Try.sizeOf25⟩
theorem Try.TF26 : TF Try.prog 26 false 1 := ⟨Try.isAgg26, Try.sizeOf26⟩
theorem Try.TF27 : TF Try.prog 27 true 3 := ⟨Try.isAgg27, Try.sizeOf27⟩
theorem Try.TF28 : TF Try.prog 28 true 3 := ⟨Try.isAgg28, Try.sizeOf28⟩
theorem Try.TF29 : TF Try.prog 29 true 2 := ⟨Try.isAgg29, Try.sizeOf29⟩
theorem Try.TF30 : TF Try.prog 30 true 2 := ⟨Try.isAgg30, Try.sizeOf30⟩
theorem Try.TF31 : TF Try.prog 31 true 32 := ⟨Try.isAgg31, Try.sizeOf31⟩
theorem Try.TF32 : TF Try.prog 32 true 43 := ⟨Try.isAgg32, Try.sizeOf32⟩
theorem Try.TF33 : TF Try.prog 33 true 43 := ⟨Try.isAgg33, Try.sizeOf33⟩
theorem Try.TF35 : TF Try.prog 35 false 1 := ⟨Try.isAgg35, Try.sizeOf35⟩
theorem Try.TF36 : TF Try.prog 36 false 1 := ⟨Try.isAgg36, Try.sizeOf36⟩
theorem Try.TF37 : TF Try.prog 37 true 8 := ⟨Try.isAgg37, Try.sizeOf37⟩
theorem Try.TF38 : TF Try.prog 38 false 1 := ⟨Try.isAgg38, Try.sizeOf38⟩
theorem Try.TF39 : TF Try.prog 39 true 9 := ⟨Try.isAgg39, Try.sizeOf39⟩
theorem Try.TF40 : TF Try.prog 40 true 9 := ⟨Try.isAgg40, Try.sizeOf40⟩
theorem Try.TF41 : TF Try.prog 41 false 1 := ⟨Try.isAgg41, Try.sizeOf41⟩
theorem Try.TF43 : TF Try.prog 43 false 1 := ⟨Try.isAgg43, Try.sizeOf43⟩
theorem Try.TF44 : TF Try.prog 44 true 2 := ⟨Try.isAgg44, Try.sizeOf44⟩
theorem Try.TF45 : TF Try.prog 45 true 2 := ⟨Try.isAgg45, Try.sizeOf45⟩
theorem Try.TF46 : TF Try.prog 46 false 1 := ⟨Try.isAgg46, Try.sizeOf46⟩
theorem Try.TF47 : TF Try.prog 47 false 1 := ⟨Try.isAgg47, Try.sizeOf47⟩
theorem Try.TF48 : TF Try.prog 48 false 1 := ⟨Try.isAgg48, Try.sizeOf48⟩
theorem Try.TF49 : TF Try.prog 49 false 1 := ⟨Try.isAgg49, Try.sizeOf49⟩
theorem Try.TF50 : TF Try.prog 50 false 1 := ⟨Try.isAgg50, Try.sizeOf50⟩
theorem Try.TF51 : TF Try.prog 51 false 1 := ⟨Try.isAgg51, Try.sizeOf51⟩
theorem Try.TF52 : TF Try.prog 52 true 62 := ⟨Try.isAgg52, Try.sizeOf52⟩
theorem Try.TF53 : TF Try.prog 53 true 62 := ⟨Try.isAgg53, Try.sizeOf53⟩
theorem Try.TF55 : TF Try.prog 55 false 1 := ⟨Try.isAgg55, Try.sizeOf55⟩
theorem Try.TF56 : TF Try.prog 56 false 1 := ⟨Try.isAgg56, Try.sizeOf56⟩
theorem Try.TF57 : TF Try.prog 57 false 1 := ⟨Try.isAgg57, Try.sizeOf57⟩
theorem Try.TF58 : TF Try.prog 58 false 1 := ⟨Try.isAgg58, Try.sizeOf58⟩
theorem Try.TF59 : TF Try.prog 59 false 1 := ⟨Try.isAgg59, Try.sizeOf59⟩
theorem Try.TF60 : TF Try.prog 60 false 1 := ⟨Try.isAgg60, Try.sizeOf60⟩
theorem Try.TF61 : TF Try.prog 61 false 1 := ⟨Try.isAgg61, Try.sizeOf61⟩
theorem Try.TF62 : TF Try.prog 62 false 1 := ⟨Try.isAgg62, Try.sizeOf62⟩
theorem Try.TF63 : TF Try.prog 63 false 1 := ⟨Try.isAgg63, Try.sizeOf63⟩
theorem Try.TF64 : TF Try.prog 64 false 1 := ⟨Try.isAgg64, Try.sizeOf64⟩
theorem Try.TF65 : TF Try.prog 65 false 1 := ⟨Try.isAgg65, Try.sizeOf65⟩
theorem Try.TF66 : TF Try.prog 66 true 1 := ⟨Try.isAgg66, Try.sizeOf66⟩
theorem Try.TF67 : TF Try.prog 67 true 1 := ⟨Try.isAgg67, Try.sizeOf67⟩
theorem Try.TF68 : TF Try.prog 68 true 12 := ⟨Try.isAgg68, Try.sizeOf68⟩
theorem Try.TF69 : TF Try.prog 69 true 12 := ⟨Try.isAgg69, Try.sizeOf69⟩
theorem Try.TF70 : TF Try.prog 70 false 1 := ⟨Try.isAgg70, Try.sizeOf70⟩
theorem Try.TF71 : TF Try.prog 71 true 2 := ⟨Try.isAgg71, Try.sizeOf71⟩
theorem Try.TF72 : TF Try.prog 72 false 1 := ⟨Try.isAgg72, Try.sizeOf72⟩
theorem Try.TF73 : TF Try.prog 73 false 1 := ⟨Try.isAgg73, Try.sizeOf73⟩
theorem Try.TF74 : TF Try.prog 74 false 1 := ⟨Try.isAgg74, Try.sizeOf74⟩
theorem Try.TF75 : TF Try.prog 75 false 1 := ⟨Try.isAgg75, Try.sizeOf75⟩
theorem Try.TF76 : TF Try.prog 76 false 1 := ⟨Try.isAgg76, Try.sizeOf76⟩
theorem Try.TF77 : TF Try.prog 77 false 1 := ⟨Try.isAgg77, Try.sizeOf77⟩
theorem Try.TF78 : TF Try.prog 78 false 1 := ⟨Try.isAgg78, Try.sizeOf78⟩
theorem Try.TF79 : TF Try.prog 79 true 3 := ⟨Try.isAgg79, Try.sizeOf79⟩
theorem Try.TF80 : TF Try.prog 80 true 3 := ⟨Try.isAgg80, Try.sizeOf80⟩
theorem Try.TF81 : TF Try.prog 81 false 1 := ⟨Try.isAgg81, Try.sizeOf81⟩
theorem Try.TF82 : TF Try.prog 82 false 1 := ⟨Try.isAgg82, Try.sizeOf82⟩
theorem Try.TF84 : TF Try.prog 84 false 1 := ⟨Try.isAgg84, Try.sizeOf84⟩
theorem Try.TF85 : TF Try.prog 85 false 1 := ⟨Try.isAgg85, Try.sizeOf85⟩
theorem Try.TF86 : TF Try.prog 86 false 1 := ⟨Try.isAgg86, Try.sizeOf86⟩
theorem Try.TF87 : TF Try.prog 87 false 1 := ⟨Try.isAgg87, Try.sizeOf87⟩
theorem Try.TF88 : TF Try.prog 88 false 1 := ⟨Try.isAgg88, Try.sizeOf88⟩
theorem Try.TF89 : TF Try.prog 89 false 1 := ⟨Try.isAgg89, Try.sizeOf89⟩
theorem Try.TF90 : TF Try.prog 90 false 1 := ⟨Try.isAgg90, Try.sizeOf90⟩
theorem Try.TF91 : TF Try.prog 91 false 1 := ⟨Try.isAgg91, Try.sizeOf91⟩
theorem Try.TF92 : TF Try.prog 92 false 1 := ⟨Try.isAgg92, Try.sizeOf92⟩
theorem Try.TF93 : TF Try.prog 93 false 1 := ⟨Try.isAgg93, Try.sizeOf93⟩
theorem Try.TF94 : TF Try.prog 94 false 1 := ⟨Try.isAgg94, Try.sizeOf94⟩
theorem Try.TF95 : TF Try.prog 95 false 1 := ⟨Try.isAgg95, Try.sizeOf95⟩
theorem Try.TF96 : TF Try.prog 96 false 1 := ⟨Try.isAgg96, Try.sizeOf96⟩
theorem Try.TF97 : TF Try.prog 97 false 1 := ⟨Try.isAgg97, Try.sizeOf97⟩
theorem Try.TF98 : TF Try.prog 98 false 1 := ⟨Try.isAgg98, Try.sizeOf98⟩
theorem Try.TF99 : TF Try.prog 99 false 1 := ⟨Try.isAgg99, Try.sizeOf99⟩
theorem Try.TF100 : TF Try.prog 100 true 48 := ⟨Try.isAgg100, Try.sizeOf100⟩
theorem Try.TF101 : TF Try.prog 101 true 48 := ⟨Try.isAgg101, Try.sizeOf101⟩
theorem Try.TF102 : TF Try.prog 102 false 1 := ⟨Try.isAgg102, Try.sizeOf102⟩
theorem Try.TF103 : TF Try.prog 103 false 1 := ⟨Try.isAgg103, Try.sizeOf103⟩
theorem Try.TF104 : TF Try.prog 104 false 1 := ⟨Try.isAgg104, Try.sizeOf104⟩
theorem Try.TF105 : TF Try.prog 105 true 56 := ⟨Try.isAgg105, Try.sizeOf105⟩
theorem Try.TF106 : TF Try.prog 106 true 56 := ⟨Try.isAgg106, Try.sizeOf106⟩
theorem Try.TF107 : TF Try.prog 107 true 3 := ⟨Try.isAgg107, Try.sizeOf107⟩
theorem Try.TF108 : TF Try.prog 108 true 3 := ⟨Try.isAgg108, Try.sizeOf108⟩
theorem Try.TF109 : TF Try.prog 109 false 1 := ⟨Try.isAgg109, Try.sizeOf109⟩
theorem Try.TF110 : TF Try.prog 110 false 1 := ⟨Try.isAgg110, Try.sizeOf110⟩
theorem Try.TF111 : TF Try.prog 111 false 1 := ⟨Try.isAgg111, Try.sizeOf111⟩
theorem Try.TF112 : TF Try.prog 112 false 1 := ⟨Try.isAgg112, Try.sizeOf112⟩
theorem Try.TF113 : TF Try.prog 113 false 1 := ⟨Try.isAgg113, Try.sizeOf113⟩
theorem Try.TF114 : TF Try.prog 114 false 1 := ⟨Try.isAgg114, Try.sizeOf114⟩
theorem Try.TF115 : TF Try.prog 115 false 1 := ⟨Try.isAgg115, Try.sizeOf115⟩
theorem Try.TF116 : TF Try.prog 116 false 1 := ⟨Try.isAgg116, Try.sizeOf116⟩
theorem Try.TF117 : TF Try.prog 117 true 1 := ⟨Try.isAgg117, Try.sizeOf117⟩
theorem Try.TF118 : TF Try.prog 118 true 1 := ⟨Try.isAgg118, Try.sizeOf118⟩
theorem Try.TF119 : TF Try.prog 119 false 1 := ⟨Try.isAgg119, Try.sizeOf119⟩
theorem Try.TF121 : TF Try.prog 121 false 1 := ⟨Try.isAgg121, Try.sizeOf121⟩
theorem Try.TF122 : TF Try.prog 122 false 1 := ⟨Try.isAgg122, Try.sizeOf122⟩
theorem Try.TF123 : TF Try.prog 123 false 1 := ⟨Try.isAgg123, Try.sizeOf123⟩
theorem Try.TF124 : TF Try.prog 124 true 11 := ⟨Try.isAgg124, Try.sizeOf124⟩
theorem Try.TF125 : TF Try.prog 125 true 11 := ⟨Try.isAgg125, Try.sizeOf125⟩
theorem Try.TF126 : TF Try.prog 126 true 12 := ⟨Try.isAgg126, Try.sizeOf126⟩
theorem Try.TF127 : TF Try.prog 127 true 12 := ⟨Try.isAgg127, Try.sizeOf127⟩
theorem Try.TF128 : TF Try.prog 128 false 1 := ⟨Try.isAgg128, Try.sizeOf128⟩
theorem Try.TF129 : TF Try.prog 129 false 1 := ⟨Try.isAgg129, Try.sizeOf129⟩
theorem Try.TF130 : TF Try.prog 130 false 1 := ⟨Try.isAgg130, Try.sizeOf130⟩
theorem Try.TF131 : TF Try.prog 131 false 1 := ⟨Try.isAgg131, Try.sizeOf131⟩
theorem Try.TF132 : TF Try.prog 132 false 1 := ⟨Try.isAgg132, Try.sizeOf132⟩
theorem Try.TF133 : TF Try.prog 133 false 1 := ⟨Try.isAgg133, Try.sizeOf133⟩
theorem Try.TF134 : TF Try.prog 134 false 1 := ⟨Try.isAgg134, Try.sizeOf134⟩
theorem Try.TF135 : TF Try.prog 135 false 1 := ⟨Try.isAgg135, Try.sizeOf135⟩
theorem Try.TF136 : TF Try.prog 136 false 1 := ⟨Try.isAgg136, Try.sizeOf136⟩
theorem Try.TF137 : TF Try.prog 137 false 1 := ⟨Try.isAgg137, Try.sizeOf137⟩
theorem Try.TF138 : TF Try.prog 138 false 1 := ⟨Try.isAgg138, Try.sizeOf138⟩
theorem Try.TF139 : TF Try.prog 139 false 1 := ⟨Try.isAgg139, Try.sizeOf139⟩
theorem Try.TF140 : TF Try.prog 140 false 1 := ⟨Try.isAgg140, Try.sizeOf140⟩
theorem Try.TF141 : TF Try.prog 141 false 1 := ⟨Try.isAgg141, Try.sizeOf141⟩
theorem Try.TF142 : TF Try.prog 142 false 1 := ⟨Try.isAgg142, Try.sizeOf142⟩
theorem Try.TF143 : TF Try.prog 143 false 1 := ⟨Try.isAgg143, Try.sizeOf143⟩
theorem Try.TF144 : TF Try.prog 144 false 1 := ⟨Try.isAgg144, Try.sizeOf144⟩
theorem Try.TF145 : TF Try.prog 145 false 1 := ⟨Try.isAgg145, Try.sizeOf145⟩
theorem Try.TF146 : TF Try.prog 146 false 1 := ⟨Try.isAgg146, Try.sizeOf146⟩
theorem Try.TF147 : TF Try.prog 147 false 1 := ⟨Try.isAgg147, Try.sizeOf147⟩
theorem Try.TF148 : TF Try.prog 148 false 1 := ⟨Try.isAgg148, Try.sizeOf148⟩
theorem Try.TF149 : TF Try.prog 149 false 1 := ⟨Try.isAgg149, Try.sizeOf149⟩
theorem Try.TF150 : TF Try.prog 150 false 1 := ⟨Try.isAgg150, Try.sizeOf150⟩
theorem Try.TF151 : TF Try.prog 151 false 1 := ⟨Try.isAgg151, Try.sizeOf151⟩
theorem Try.TF152 : TF Try.prog 152 false 1 := ⟨Try.isAgg152, Try.sizeOf152⟩
theorem Try.TF153 : TF Try.prog 153 false 1 := ⟨Try.isAgg153, Try.sizeOf153⟩
theorem Try.TF154 : TF Try.prog 154 false 1 := ⟨Try.isAgg154, Try.sizeOf154⟩
theorem Try.TF155 : TF Try.prog 155 false 1 := ⟨Try.isAgg155, Try.sizeOf155⟩
theorem Try.TF157 : TF Try.prog 157 false 1 := ⟨Try.isAgg157, Try.sizeOf157⟩
theorem Try.TF158 : TF Try.prog 158 false 1 := ⟨Try.isAgg158, Try.sizeOf158⟩
theorem Try.TF159 : TF Try.prog 159 false 1 := ⟨Try.isAgg159, Try.sizeOf159⟩
theorem Try.TF160 : TF Try.prog 160 false 1 := ⟨Try.isAgg160, Try.sizeOf160⟩
theorem Try.TF161 : TF Try.prog 161 false 1 := ⟨Try.isAgg161, Try.sizeOf161⟩
theorem Try.TF162 : TF Try.prog 162 false 1 := ⟨Try.isAgg162, Try.sizeOf162⟩
theorem Try.TF163 : TF Try.prog 163 false 1 := ⟨Try.isAgg163, Try.sizeOf163⟩
theorem Try.TF164 : TF Try.prog 164 false 1 := ⟨Try.isAgg164, Try.sizeOf164⟩
theorem Try.TF165 : TF Try.prog 165 false 1 := ⟨Try.isAgg165, Try.sizeOf165⟩
theorem Try.TF166 : TF Try.prog 166 false 1 := ⟨Try.isAgg166, Try.sizeOf166⟩
theorem Try.TF167 : TF Try.prog 167 false 1 := ⟨Try.isAgg167, Try.sizeOf167⟩
theorem Try.TF168 : TF Try.prog 168 false 1 := ⟨Try.isAgg168, Try.sizeOf168⟩
theorem Try.TF169 : TF Try.prog 169 false 1 := ⟨Try.isAgg169, Try.sizeOf169⟩
theorem Try.TF170 : TF Try.prog 170 false 1 := ⟨Try.isAgg170, Try.sizeOf170⟩
theorem Try.TF171 : TF Try.prog 171 false 1 := ⟨Try.isAgg171, Try.sizeOf171⟩
theorem Try.TF172 : TF Try.prog 172 false 1 := ⟨Try.isAgg172, Try.sizeOf172⟩
theorem Try.TF174 : TF Try.prog 174 false 1 := ⟨Try.isAgg174, Try.sizeOf174⟩
theorem Try.TF175 : TF Try.prog 175 false 1 := ⟨Try.isAgg175, Try.sizeOf175⟩
theorem Try.TF176 : TF Try.prog 176 false 1 := ⟨Try.isAgg176, Try.sizeOf176⟩
theorem Try.TF177 : TF Try.prog 177 false 1 := ⟨Try.isAgg177, Try.sizeOf177⟩
theorem Try.TF178 : TF Try.prog 178 false 1 := ⟨Try.isAgg178, Try.sizeOf178⟩
theorem Try.TF179 : TF Try.prog 179 false 1 := ⟨Try.isAgg179, Try.sizeOf179⟩
theorem Try.TF180 : TF Try.prog 180 false 1 := ⟨Try.isAgg180, Try.sizeOf180⟩
theorem Try.TF181 : TF Try.prog 181 false 1 := ⟨Try.isAgg181, Try.sizeOf181⟩
theorem Try.TF182 : TF Try.prog 182 false 1 := ⟨Try.isAgg182, Try.sizeOf182⟩
theorem Try.TF183 : TF Try.prog 183 false 1 := ⟨Try.isAgg183, Try.sizeOf183⟩
theorem Try.TF184 : TF Try.prog 184 false 1 := ⟨Try.isAgg184, Try.sizeOf184⟩
theorem Try.TF185 : TF Try.prog 185 false 1 := ⟨Try.isAgg185, Try.sizeOf185⟩
theorem Try.TF186 : TF Try.prog 186 false 1 := ⟨Try.isAgg186, Try.sizeOf186⟩
theorem Try.TF187 : TF Try.prog 187 false 1 := ⟨Try.isAgg187, Try.sizeOf187⟩
theorem Try.TF188 : TF Try.prog 188 false 1 := ⟨Try.isAgg188, Try.sizeOf188⟩
theorem Try.TF189 : TF Try.prog 189 false 1 := ⟨Try.isAgg189, Try.sizeOf189⟩
theorem Try.TF190 : TF Try.prog 190 false 1 := ⟨Try.isAgg190, Try.sizeOf190⟩
theorem Try.TF191 : TF Try.prog 191 false 1 := ⟨Try.isAgg191, Try.sizeOf191⟩
theorem Try.TF192 : TF Try.prog 192 false 1 := ⟨Try.isAgg192, Try.sizeOf192⟩
theorem Try.TF193 : TF Try.prog 193 false 1 := ⟨Try.isAgg193, Try.sizeOf193⟩
theorem Try.TF194 : TF Try.prog 194 false 1 := ⟨Try.isAgg194, Try.sizeOf194⟩
theorem Try.TF195 : TF Try.prog 195 false 1 := ⟨Try.isAgg195, Try.sizeOf195⟩
theorem Try.TF196 : TF Try.prog 196 false 1 := ⟨Try.isAgg196, Try.sizeOf196⟩
theorem Try.TF197 : TF Try.prog 197 false 1 := ⟨Try.isAgg197, Try.sizeOf197⟩
theorem Try.TF198 : TF Try.prog 198 false 1 := ⟨Try.isAgg198, Try.sizeOf198⟩
theorem Try.TF199 : TF Try.prog 199 false 1 := ⟨Try.isAgg199, Try.sizeOf199⟩
theorem Try.TF200 : TF Try.prog 200 false 1 := ⟨Try.isAgg200, Try.sizeOf200⟩
theorem Try.TF201 : TF Try.prog 201 false 1 := ⟨Try.isAgg201, Try.sizeOf201⟩
theorem Try.TF202 : TF Try.prog 202 false 1 := ⟨Try.isAgg202, Try.sizeOf202⟩
theorem Try.TF203 : TF Try.prog 203 false 1 := ⟨Try.isAgg203, Try.sizeOf203⟩
theorem Try.TF205 : TF Try.prog 205 false 1 := ⟨Try.isAgg205, Try.sizeOf205⟩
theorem Try.TF206 : TF Try.prog 206 false 1 := ⟨Try.isAgg206, Try.sizeOf206⟩
theorem Try.TF207 : TF Try.prog 207 false 1 := ⟨Try.isAgg207, Try.sizeOf207⟩
theorem Try.TF208 : TF Try.prog 208 false 1 := ⟨Try.isAgg208, Try.sizeOf208⟩
theorem Try.TF209 : TF Try.prog 209 false 1 := ⟨Try.isAgg209, Try.sizeOf209⟩
theorem Try.TF210 : TF Try.prog 210 true 4 := ⟨Try.isAgg210, Try.sizeOf210⟩
theorem Try.TF211 : TF Try.prog 211 true 4 := ⟨Try.isAgg211, Try.sizeOf211⟩
theorem Try.TF215 : TF Try.prog 215 false 1 := ⟨Try.isAgg215, Try.sizeOf215⟩
theorem Try.TF216 : TF Try.prog 216 false 1 := ⟨Try.isAgg216, Try.sizeOf216⟩
theorem Try.TF217 : TF Try.prog 217 false 1 := ⟨Try.isAgg217, Try.sizeOf217⟩
theorem Try.TF218 : TF Try.prog 218 false 1 := ⟨Try.isAgg218, Try.sizeOf218⟩
theorem Try.TF219 : TF Try.prog 219 false 1 := ⟨Try.isAgg219, Try.sizeOf219⟩
theorem Try.TF220 : TF Try.prog 220 false 1 := ⟨Try.isAgg220, Try.sizeOf220⟩
theorem Try.TF221 : TF Try.prog 221 true 11 := ⟨Try.isAgg221, Try.sizeOf221⟩
theorem Try.TF222 : TF Try.prog 222 true 11 := ⟨Try.isAgg222, Try.sizeOf222⟩
theorem Try.TF223 : TF Try.prog 223 true 3 := ⟨Try.isAgg223, Try.sizeOf223⟩
theorem Try.TF224 : TF Try.prog 224 true 3 := ⟨Try.isAgg224, Try.sizeOf224⟩
theorem Try.fa7_0 : FA Try.prog 7 0 0 := FA.mk' Try.underlying7 rfl Try.sizeOf2 (by decide)
theorem Try.fa7_1 : FA Try.prog 7 1 1 := FA.mk' Try.underlying7 rfl Try.sizeOf3 (by decide)
theorem Try.fa7_2 : FA Try.prog 7 2 2 := FA.mk' Try.underlying7 rfl Try.sizeOf4 (by decide)
theorem Try.fa7_3 : FA Try.prog 7 3 3 := FA.mk' Try.underlying7 rfl Try.sizeOf6 (by decide)
theorem Try.BT7 : BT Try.prog 7 [.int .i64 0, .int .i64 0, .bool false, .int .u8 0] (fun i => (#[(0, 1), (1, 1), (2, 1), (3, 1)] : Array (Nat × Nat))[i]?) := BT.mkS (places := #[(0, 1), (1, 1), (2, 1), (3, 1)]) Try.zeroValue7 Try.underlying7 (fun w => by simp [Try.sizeOf2, Try.sizeOf3, Try.sizeOf4, Try.sizeOf6])
theorem Try.fa8_0 : FA Try.prog 8 0 0 := FA.mk' Try.underlying8 rfl Try.sizeOf2 (by decide)
theorem Try.fa8_1 : FA Try.prog 8 1 1 := FA.mk' Try.underlying8 rfl Try.sizeOf3 (by decide)
theorem Try.fa8_2 : FA Try.prog 8 2 2 := FA.mk' Try.underlying8 rfl Try.sizeOf4 (by decide)
theorem Try.fa8_3 : FA Try.prog 8 3 3 := FA.mk' Try.underlying8 rfl Try.sizeOf6 (by decide)
theorem Try.BT8 : BT Try.prog 8 [.int .i64 0, .int .i64 0, .bool false, .int .u8 0] (fun i => (#[(0, 1), (1, 1), (2, 1), (3, 1)] : Array (Nat × Nat))[i]?) := BT.mkS (places := #[(0, 1), (1, 1), (2, 1), (3, 1)]) Try.zeroValue8 Try.underlying8 (fun w => by simp [Try.sizeOf2, Try.sizeOf3, Try.sizeOf4, Try.sizeOf6])
theorem Try.fa13_0 : FA Try.prog 13 0 0 := FA.mk' Try.underlying13 rfl Try.sizeOf9 (by decide)
theorem Try.fa13_1 : FA Try.prog 13 1 1 := FA.mk' Try.underlying13 rfl Try.sizeOf12 (by decide)
theorem Try.BT13 : BT Try.prog 13 [.string ⟨#[]⟩, .int .u64 0] (fun i => (#[(0, 1), (1, 1)] : Array (Nat × Nat))[i]?) := BT.mkS (places := #[(0, 1), (1, 1)]) Try.zeroValue13 Try.underlying13 (fun w => by simp [Try.sizeOf9, Try.sizeOf12])
theorem Try.fa14_0 : FA Try.prog 14 0 0 := FA.mk' Try.underlying14 rfl Try.sizeOf9 (by decide)
theorem Try.fa14_1 : FA Try.prog 14 1 1 := FA.mk' Try.underlying14 rfl Try.sizeOf12 (by decide)
theorem Try.BT14 : BT Try.prog 14 [.string ⟨#[]⟩, .int .u64 0] (fun i => (#[(0, 1), (1, 1)] : Array (Nat × Nat))[i]?) := BT.mkS (places := #[(0, 1), (1, 1)]) Try.zeroValue14 Try.underlying14 (fun w => by simp [Try.sizeOf9, Try.sizeOf12])
theorem Try.fa18_0 : FA Try.prog 18 0 0 := FA.mk' Try.underlying18 rfl Try.sizeOf17 (by decide)
theorem Try.BT18 : BT Try.prog 18 [.pointer none] (fun i => (#[(0, 1)] : Array (Nat × Nat))[i]?) := BT.mkS (places := #[(0, 1)]) Try.zeroValue18 Try.underlying18 (fun w => by simp [Try.sizeOf17])
theorem Try.fa19_0 : FA Try.prog 19 0 0 := FA.mk' Try.underlying19 rfl Try.sizeOf17 (by decide)
theorem Try.BT19 : BT Try.prog 19 [.pointer none] (fun i => (#[(0, 1)] : Array (Nat × Nat))[i]?) := BT.mkS (places := #[(0, 1)]) Try.zeroValue19 Try.underlying19 (fun w => by simp [Try.sizeOf17])
theorem Try.BT25 : BT Try.prog 25 [.int .i64 0, .int .i64 0, .int .i64 0, .int .i64 0, .int .i64 0, .int .i64 0, .int .i64 0, .int .i64 0] (fun i => some (i * 1, 1)) := BT.mkA Try.zeroValue25 Try.underlying25 Try.sizeOf3
theorem Try.fa27_0 : FA Try.prog 27 0 0 := FA.mk' Try.underlying27 rfl Try.sizeOf3 (by decide)
theorem Try.fa27_1 : FA Try.prog 27 1 1 := FA.mk' Try.underlying27 rfl Try.sizeOf3 (by decide)
theorem Try.fa27_2 : FA Try.prog 27 2 2 := FA.mk' Try.underlying27 rfl Try.sizeOf26 (by decide)
theorem Try.BT27 : BT Try.prog 27 [.int .i64 0, .int .i64 0, .slice none 0 0] (fun i => (#[(0, 1), (1, 1), (2, 1)] : Array (Nat × Nat))[i]?) := BT.mkS (places := #[(0, 1), (1, 1), (2, 1)]) Try.zeroValue27 Try.underlying27 (fun w => by simp [Try.sizeOf3, Try.sizeOf26])
theorem Try.fa28_0 : FA Try.prog 28 0 0 := FA.mk' Try.underlying28 rfl Try.sizeOf3 (by decide)
theorem Try.fa28_1 : FA Try.prog 28 1 1 := FA.mk' Try.underlying28 rfl Try.sizeOf3 (by decide)
theorem Try.fa28_2 : FA Try.prog 28 2 2 := FA.mk' Try.underlying28 rfl Try.sizeOf26 (by decide)
theorem Try.BT28 : BT Try.prog 28 [.int .i64 0, .int .i64 0, .slice none 0 0] (fun i => (#[(0, 1), (1, 1), (2, 1)] : Array (Nat × Nat))[i]?) := BT.mkS (places := #[(0, 1), (1, 1), (2, 1)]) Try.zeroValue28 Try.underlying28 (fun w => by simp [Try.sizeOf3, Try.sizeOf26])
theorem Try.fa29_0 : FA Try.prog 29 0 0 := FA.mk' Try.underlying29 rfl Try.sizeOf3 (by decide)
theorem Try.fa29_1 : FA Try.prog 29 1 1 := FA.mk' Try.underlying29 rfl Try.sizeOf3 (by decide)
theorem Try.BT29 : BT Try.prog 29 [.int .i64 0, .int .i64 0] (fun i => (#[(0, 1), (1, 1)] : Array (Nat × Nat))[i]?) := BT.mkS (places := #[(0, 1), (1, 1)]) Try.zeroValue29 Try.underlying29 (fun w => by simp [Try.sizeOf3])
theorem Try.fa30_0 : FA Try.prog 30 0 0 := FA.mk' Try.underlying30 rfl Try.sizeOf3 (by decide)
theorem Try.fa30_1 : FA Try.prog 30 1 1 := FA.mk' Try.underlying30 rfl Try.sizeOf3 (by decide)
theorem Try.BT30 : BT Try.prog 30 [.int .i64 0, .int .i64 0] (fun i => (#[(0, 1), (1, 1)] : Array (Nat × Nat))[i]?) := BT.mkS (places := #[(0, 1), (1, 1)]) Try.zeroValue30 Try.underlying30 (fun w => by simp [Try.sizeOf3])
theorem Try.BT31 : BT Try.prog 31 [.int .i64 0, .int .i64 0, .int .i64 0, .int .i64 0, .int .i64 0, .int .i64 0, .int .i64 0, .int .i64 0, .int .i64 0, .int .i64 0, .int .i64 0, .int .i64 0, .int .i64 0, .int .i64 0, .int .i64 0, .int .i64 0, .int .i64 0, .int .i64 0, .int .i64 0, .int .i64 0, .int .i64 0, .int .i64 0, .int .i64 0, .int .i64 0, .int .i64 0, .int .i64 0, .int .i64 0, .int .i64 0, .int .i64 0, .int .i64 0, .int .i64 0, .int .i64 0] (fun i => some (i * 2, 2)) := BT.mkA Try.zeroValue31 Try.underlying31 Try.sizeOf30
theorem Try.fa32_0 : FA Try.prog 32 0 0 := FA.mk' Try.underlying32 rfl Try.sizeOf25 (by decide)
theorem Try.fa32_1 : FA Try.prog 32 1 8 := FA.mk' Try.underlying32 rfl Try.sizeOf28 (by decide)
theorem Try.fa32_2 : FA Try.prog 32 2 11 := FA.mk' Try.underlying32 rfl Try.sizeOf31 (by decide)
theorem Try.BT32 : BT Try.prog 32 [.int .i64 0, .int .i64 0, .int .i64 0, .int .i64 0, .int .i64 0, .int .i64 0, .int .i64 0, .int .i64 0, .int .i64 0, .int .i64 0, .slice none 0 0, .int .i64 0, .int .i64 0, .int .i64 0, .int .i64 0, .int .i64 0, .int .i64 0, .int .i64 0, .int .i64 0, .int .i64 0, .int .i64 0, .int .i64 0, .int .i64 0, .int .i64 0, .int .i64 0, .int .i64 0, .int .i64 0, .int .i64 0, .int .i64 0, .int .i64 0, .int .i64 0, .int .i64 0, .int .i64 0, .int .i64 0, .int .i64 0, .int .i64 0, .int .i64 0, .int .i64 0, .int .i64 0, .int .i64 0, .int .i64 0, .int .i64 0, .int .i64 0] (fun i => (#[(0, 8), (8, 3), (11, 32)] : Array (Nat × Nat))[i]?) := BT.mkS (places := #[(0, 8), (8, 3), (11, 32)]) Try.zeroValue32 Try.underlying32 (fun w => by simp [Try.sizeOf25, Try.sizeOf28, Try.sizeOf31])
theorem Try.fa33_0 : FA Try.prog 33 0 0 := FA.mk' Try.underlying33 rfl Try.sizeOf25 (by decide)
theorem Try.fa33_1 : FA Try.prog 33 1 8 := FA.mk' Try.underlying33 rfl Try.sizeOf28 (by decide)
theorem Try.fa33_2 : FA Try.prog 33 2 11 := FA.mk' Try.underlying33 rfl Try.sizeOf31 (by decide)
theorem Try.BT33 : BT Try.prog 33 [.int .i64 0, .int .i64 0, .int .i64 0, .int .i64 0, .int .i64 0, .int .i64 0, .int .i64 0, .int .i64 0, .int .i64 0, .int .i64 0, .slice none 0 0, .int .i64 0, .int .i64 0, .int .i64 0, .int .i64 0, .int .i64 0, .int .i64 0, .int .i64 0, .int .i64 0, .int .i64 0, .int .i64 0, .int .i64 0, .int .i64 0, .int .i64 0, .int .i64 0, .int .i64 0, .int .i64 0, .int .i64 0, .int .i64 0, .int .i64 0, .int .i64 0, .int .i64 0, .int .i64 0, .int .i64 0, .int .i64 0, .int .i64 0, .int .i64 0, .int .i64 0, .int .i64 0, .int .i64 0, .int .i64 0, .int .i64 0, .int .i64 0] (fun i => (#[(0, 8), (8, 3), (11, 32)] : Array (Nat × Nat))[i]?) := BT.mkS (places := #[(0, 8), (8, 3), (11, 32)]) Try.zeroValue33 Try.underlying33 (fun w => by simp [Try.sizeOf25, Try.sizeOf28, Try.sizeOf31])
theorem Try.BT37 : BT Try.prog 37 [.int .i64 0, .int .i64 0, .int .i64 0, .int .i64 0, .int .i64 0, .int .i64 0, .int .i64 0, .int .i64 0] (fun i => some (i * 1, 1)) := BT.mkA Try.zeroValue37 Try.underlying37 Try.sizeOf3
theorem Try.fa39_0 : FA Try.prog 39 0 0 := FA.mk' Try.underlying39 rfl Try.sizeOf37 (by decide)
theorem Try.fa39_1 : FA Try.prog 39 1 8 := FA.mk' Try.underlying39 rfl Try.sizeOf38 (by decide)
theorem Try.BT39 : BT Try.prog 39 [.int .i64 0, .int .i64 0, .int .i64 0, .int .i64 0, .int .i64 0, .int .i64 0, .int .i64 0, .int .i64 0, .slice none 0 0] (fun i => (#[(0, 8), (8, 1)] : Array (Nat × Nat))[i]?) := BT.mkS (places := #[(0, 8), (8, 1)]) Try.zeroValue39 Try.underlying39 (fun w => by simp [Try.sizeOf37, Try.sizeOf38])
theorem Try.fa40_0 : FA Try.prog 40 0 0 := FA.mk' Try.underlying40 rfl Try.sizeOf37 (by decide)
theorem Try.fa40_1 : FA Try.prog 40 1 8 := FA.mk' Try.underlying40 rfl Try.sizeOf38 (by decide)
theorem Try.BT40 : BT Try.prog 40 [.int .i64 0, .int .i64 0, .int .i64 0, .int .i64 0, .int .i64 0, .int .i64 0, .int .i64 0, .int .i64 0, .slice none 0 0] (fun i => (#[(0, 8), (8, 1)] : Array (Nat × Nat))[i]?) := BT.mkS (places := #[(0, 8), (8, 1)]) Try.zeroValue40 Try.underlying40 (fun w => by simp [Try.sizeOf37, Try.sizeOf38])
theorem Try.fa44_0 : FA Try.prog 44 0 0 := FA.mk' Try.underlying44 rfl Try.sizeOf3 (by decide)
theorem Try.fa44_1 : FA Try.prog 44 1 1 := FA.mk' Try.underlying44 rfl Try.sizeOf3 (by decide)
theorem Try.BT44 : BT Try.prog 44 [.int .i64 0, .int .i64 0] (fun i => (#[(0, 1), (1, 1)] : Array (Nat × Nat))[i]?) := BT.mkS (places := #[(0, 1), (1, 1)]) Try.zeroValue44 Try.underlying44 (fun w => by simp [Try.sizeOf3])
theorem Try.fa45_0 : FA Try.prog 45 0 0 := FA.mk' Try.underlying45 rfl Try.sizeOf3 (by decide)
theorem Try.fa45_1 : FA Try.prog 45 1 1 := FA.mk' Try.underlying45 rfl Try.sizeOf3 (by decide)
theorem Try.BT45 : BT Try.prog 45 [.int .i64 0, .int .i64 0] (fun i => (#[(0, 1), (1, 1)] : Array (Nat × Nat))[i]?) := BT.mkS (places := #[(0, 1), (1, 1)]) Try.zeroValue45 Try.underlying45 (fun w => by simp [Try.sizeOf3])
theorem Try.fa52_0 : FA Try.prog 52 0 0 := FA.mk' Try.underlying52 rfl Try.sizeOf3 (by decide)
theorem Try.fa52_1 : FA Try.prog 52 1 1 := FA.mk' Try.underlying52 rfl Try.sizeOf3 (by decide)
theorem Try.fa52_2 : FA Try.prog 52 2 2 := FA.mk' Try.underlying52 rfl Try.sizeOf3 (by decide)
theorem Try.fa52_3 : FA Try.prog 52 3 3 := FA.mk' Try.underlying52 rfl Try.sizeOf3 (by decide)
theorem Try.fa52_4 : FA Try.prog 52 4 4 := FA.mk' Try.underlying52 rfl Try.sizeOf3 (by decide)
theorem Try.fa52_5 : FA Try.prog 52 5 5 := FA.mk' Try.underlying52 rfl Try.sizeOf3 (by decide)
theorem Try.fa52_6 : FA Try.prog 52 6 6 := FA.mk' Try.underlying52 rfl Try.sizeOf3 (by decide)
theorem Try.fa52_7 : FA Try.prog 52 7 7 := FA.mk' Try.underlying52 rfl Try.sizeOf3 (by decide)
theorem Try.fa52_8 : FA Try.prog 52 8 8 := FA.mk' Try.underlying52 rfl Try.sizeOf9 (by decide)
theorem Try.fa52_9 : FA Try.prog 52 9 9 := FA.mk' Try.underlying52 rfl Try.sizeOf40 (by decide)
theorem Try.fa52_10 : FA Try.prog 52 10 18 := FA.mk' Try.underlying52 rfl Try.sizeOf33 (by decide)
theorem Try.fa52_11 : FA Try.prog 52 11 61 := FA.mk' Try.underlying52 rfl Try.sizeOf51 (by decide)
theorem Try.BT52 : BT Try.prog 52 [.int .i64 0, .int .i64 0, .int .i64 0, .int .i64 0, .int .i64 0, .int .i64 0, .int .i64 0, .int .i64 0, .string ⟨#[]⟩, .int .i64 0, .int .i64 0, .int .i64 0, .int .i64 0, .int .i64 0, .int .i64 0, .int .i64 0, .int .i64 0, .slice none 0 0, .int .i64 0, .int .i64 0, .int .i64 0, .int .i64 0, .int .i64 0, .int .i64 0, .int .i64 0, .int .i64 0, .int .i64 0, .int .i64 0, .slice none 0 0, .int .i64 0, .int .i64 0, .int .i64 0, .int .i64 0, .int .i64 0, .int .i64 0, .int .i64 0, .int .i64 0, .int .i64 0, .int .i64 0, .int .i64 0, .int .i64 0, .int .i64 0, .int .i64 0, .int .i64 0, .int .i64 0, .int .i64 0, .int .i64 0, .int .i64 0, .int .i64 0, .int .i64 0, .int .i64 0, .int .i64 0, .int .i64 0, .int .i64 0, .int .i64 0, .int .i64 0, .int .i64 0, .int .i64 0, .int .i64 0, .int .i64 0, .int .i64 0, .slice none 0 0] (fun i => (#[(0, 1), (1, 1), (2, 1), (3, 1), (4, 1), (5, 1), (6, 1), (7, 1), (8, 1), (9, 9), (18, 43), (61, 1)] : Array (Nat × Nat))[i]?) := BT.mkS (places := #[(0, 1), (1, 1), (2, 1), (3, 1), (4, 1), (5, 1), (6, 1), (7, 1), (8, 1), (9, 9), (18, 43), (61, 1)]) Try.zeroValue52 Try.underlying52 (fun w => by simp [Try.sizeOf3, Try.sizeOf9, Try.sizeOf33, Try.sizeOf40, Try.sizeOf51])
theorem Try.fa53_0 : FA Try.prog 53 0 0 := FA.mk' Try.underlying53 rfl Try.sizeOf3 (by decide)
theorem Try.fa53_1 : FA Try.prog 53 1 1 := FA.mk' Try.underlying53 rfl Try.sizeOf3 (by decide)
theorem Try.fa53_2 : FA Try.prog 53 2 2 := FA.mk' Try.underlying53 rfl Try.sizeOf3 (by decide)
theorem Try.fa53_3 : FA Try.prog 53 3 3 := FA.mk' Try.underlying53 rfl Try.sizeOf3 (by decide)
theorem Try.fa53_4 : FA Try.prog 53 4 4 := FA.mk' Try.underlying53 rfl Try.sizeOf3 (by decide)
theorem Try.fa53_5 : FA Try.prog 53 5 5 := FA.mk' Try.underlying53 rfl Try.sizeOf3 (by decide)
theorem Try.fa53_6 : FA Try.prog 53 6 6 := FA.mk' Try.underlying53 rfl Try.sizeOf3 (by decide)
theorem Try.fa53_7 : FA Try.prog 53 7 7 := FA.mk' Try.underlying53 rfl Try.sizeOf3 (by decide)
theorem Try.fa53_8 : FA Try.prog 53 8 8 := FA.mk' Try.underlying53 rfl Try.sizeOf9 (by decide)
theorem Try.fa53_9 : FA Try.prog 53 9 9 := FA.mk' Try.underlying53 rfl Try.sizeOf40 (by decide)
theorem Try.fa53_10 : FA Try.prog 53 10 18 := FA.mk' Try.underlying53 rfl Try.sizeOf33 (by decide)
theorem Try.fa53_11 : FA Try.prog 53 11 61 := FA.mk' Try.underlying53 rfl Try.sizeOf51 (by decide)
theorem Try.BT53 : BT Try.prog 53 [.int .i64 0, .int .i64 0, .int .i64 0, .int .i64 0, .int .i64 0, .int .i64 0, .int .i64 0, .int .i64 0, .string ⟨#[]⟩, .int .i64 0, .int .i64 0, .int .i64 0, .int .i64 0, .int .i64 0, .int .i64 0, .int .i64 0, .int .i64 0, .slice none 0 0, .int .i64 0, .int .i64 0, .int .i64 0, .int .i64 0, .int .i64 0, .int .i64 0, .int .i64 0, .int .i64 0, .int .i64 0, .int .i64 0, .slice none 0 0, .int .i64 0, .int .i64 0, .int .i64 0, .int .i64 0, .int .i64 0, .int .i64 0, .int .i64 0, .int .i64 0, .int .i64 0, .int .i64 0, .int .i64 0, .int .i64 0, .int .i64 0, .int .i64 0, .int .i64 0, .int .i64 0, .int .i64 0, .int .i64 0, .int .i64 0, .int .i64 0, .int .i64 0, .int .i64 0, .int .i64 0, .int .i64 0, .int .i64 0, .int .i64 0, .int .i64 0, .int .i64 0, .int .i64 0, .int .i64 0, .int .i64 0, .int .i64 0, .slice none 0 0] (fun i => (#[(0, 1), (1, 1), (2, 1), (3, 1), (4, 1), (5, 1), (6, 1), (7, 1), (8, 1), (9, 9), (18, 43), (61, 1)] : Array (Nat × Nat))[i]?) := BT.mkS (places := #[(0, 1), (1, 1), (2, 1), (3, 1), (4, 1), (5, 1), (6, 1), (7, 1), (8, 1), (9, 9), (18, 43), (61, 1)]) Try.zeroValue53 Try.underlying53 (fun w => by simp [Try.sizeOf3, Try.sizeOf9, Try.sizeOf33, Try.sizeOf40, Try.sizeOf51])
theorem Try.fa66_0 : FA Try.prog 66 0 0 := FA.mk' Try.underlying66 rfl Try.sizeOf65 (by decide)
theorem Try.BT66 : BT Try.prog 66 [.slice none 0 0] (fun i => (#[(0, 1)] : Array (Nat × Nat))[i]?) := BT.mkS (places := #[(0, 1)]) Try.zeroValue66 Try.underlying66 (fun w => by simp [Try.sizeOf65])
theorem Try.fa67_0 : FA Try.prog 67 0 0 := FA.mk' Try.underlying67 rfl Try.sizeOf65 (by decide)
theorem Try.BT67 : BT Try.prog 67 [.slice none 0 0] (fun i => (#[(0, 1)] : Array (Nat × Nat))[i]?) := BT.mkS (places := #[(0, 1)]) Try.zeroValue67 Try.underlying67 (fun w => by simp [Try.sizeOf65])
theorem Try.fa68_0 : FA Try.prog 68 0 0 := FA.mk' Try.underlying68 rfl Try.sizeOf9 (by decide)
theorem Try.fa68_1 : FA Try.prog 68 1 1 := FA.mk' Try.underlying68 rfl Try.sizeOf9 (by decide)
theorem Try.fa68_2 : FA Try.prog 68 2 2 := FA.mk' Try.underlying68 rfl Try.sizeOf37 (by decide)
theorem Try.fa68_3 : FA Try.prog 68 3 10 := FA.mk' Try.underlying68 rfl Try.sizeOf45 (by decide)
theorem Try.BT68 : BT Try.prog 68 [.string ⟨#[]⟩, .string ⟨#[]⟩, .int .i64 0, .int .i64 0, .int .i64 0, .int .i64 0, .int .i64 0, .int .i64 0, .int .i64 0, .int .i64 0, .int .i64 0, .int .i64 0] (fun i => (#[(0, 1), (1, 1), (2, 8), (10, 2)] : Array (Nat × Nat))[i]?) := BT.mkS (places := #[(0, 1), (1, 1), (2, 8), (10, 2)]) Try.zeroValue68 Try.underlying68 (fun w => by simp [Try.sizeOf9, Try.sizeOf37, Try.sizeOf45])
theorem Try.fa69_0 : FA Try.prog 69 0 0 := FA.mk' Try.underlying69 rfl Try.sizeOf9 (by decide)
theorem Try.fa69_1 : FA Try.prog 69 1 1 := FA.mk' Try.underlying69 rfl Try.sizeOf9 (by decide)
theorem Try.fa69_2 : FA Try.prog 69 2 2 := FA.mk' Try.underlying69 rfl Try.sizeOf37 (by decide)
theorem Try.fa69_3 : FA Try.prog 69 3 10 := FA.mk' Try.underlying69 rfl Try.sizeOf45 (by decide)
theorem Try.BT69 : BT Try.prog 69 [.string ⟨#[]⟩, .string ⟨#[]⟩, .int .i64 0, .int .i64 0, .int .i64 0, .int .i64 0, .int .i64 0, .int .i64 0, .int .i64 0, .int .i64 0, .int .i64 0, .int .i64 0] (fun i => (#[(0, 1), (1, 1), (2, 8), (10, 2)] : Array (Nat × Nat))[i]?) := BT.mkS (places := #[(0, 1), (1, 1), (2, 8), (10, 2)]) Try.zeroValue69 Try.underlying69 (fun w => by simp [Try.sizeOf9, Try.sizeOf37, Try.sizeOf45])
theorem Try.BT71 : BT Try.prog 71 [.string ⟨#[]⟩, .string ⟨#[]⟩] (fun i => some (i * 1, 1)) := BT.mkA Try.zeroValue71 Try.underlying71 Try.sizeOf9
theorem Try.fa79_0 : FA Try.prog 79 0 0 := FA.mk' Try.underlying79 rfl Try.sizeOf45 (by decide)
theorem Try.fa79_1 : FA Try.prog 79 1 2 := FA.mk' Try.underlying79 rfl Try.sizeOf9 (by decide)
theorem Try.BT79 : BT Try.prog 79 [.int .i64 0, .int .i64 0, .string ⟨#[]⟩] (fun i => (#[(0, 2), (2, 1)] : Array (Nat × Nat))[i]?) := BT.mkS (places := #[(0, 2), (2, 1)]) Try.zeroValue79 Try.underlying79 (fun w => by simp [Try.sizeOf9, Try.sizeOf45])
theorem Try.fa80_0 : FA Try.prog 80 0 0 := FA.mk' Try.underlying80 rfl Try.sizeOf45 (by decide)
theorem Try.fa80_1 : FA Try.prog 80 1 2 := FA.mk' Try.underlying80 rfl Try.sizeOf9 (by decide)
theorem Try.BT80 : BT Try.prog 80 [.int .i64 0, .int .i64 0, .string ⟨#[]⟩] (fun i => (#[(0, 2), (2, 1)] : Array (Nat × Nat))[i]?) := BT.mkS (places := #[(0, 2), (2, 1)]) Try.zeroValue80 Try.underlying80 (fun w => by simp [Try.sizeOf9, Try.sizeOf45])
theorem Try.fa100_0 : FA Try.prog 100 0 0 := FA.mk' Try.underlying100 rfl Try.sizeOf48 (by decide)
theorem Try.fa100_1 : FA Try.prog 100 1 1 := FA.mk' Try.underlying100 rfl Try.sizeOf3 (by decide)
theorem Try.fa100_2 : FA Try.prog 100 2 2 := FA.mk' Try.underlying100 rfl Try.sizeOf33 (by decide)
theorem Try.fa100_3 : FA Try.prog 100 3 45 := FA.mk' Try.underlying100 rfl Try.sizeOf3 (by decide)
theorem Try.fa100_4 : FA Try.prog 100 4 46 := FA.mk' Try.underlying100 rfl Try.sizeOf3 (by decide)
theorem Try.fa100_5 : FA Try.prog 100 5 47 := FA.mk' Try.underlying100 rfl Try.sizeOf99 (by decide)
theorem Try.BT100 : BT Try.prog 100 [.pointer none, .int .i64 0, .int .i64 0, .int .i64 0, .int .i64 0, .int .i64 0, .int .i64 0, .int .i64 0, .int .i64 0, .int .i64 0, .int .i64 0, .int .i64 0, .slice none 0 0, .int .i64 0, .int .i64 0, .int .i64 0, .int .i64 0, .int .i64 0, .int .i64 0, .int .i64 0, .int .i64 0, .int .i64 0, .int .i64 0, .int .i64 0, .int .i64 0, .int .i64 0, .int .i64 0, .int .i64 0, .int .i64 0, .int .i64 0, .int .i64 0, .int .i64 0, .int .i64 0, .int .i64 0, .int .i64 0, .int .i64 0, .int .i64 0, .int .i64 0, .int .i64 0, .int .i64 0, .int .i64 0, .int .i64 0, .int .i64 0, .int .i64 0, .int .i64 0, .int .i64 0, .int .i64 0, .map none] (fun i => (#[(0, 1), (1, 1), (2, 43), (45, 1), (46, 1), (47, 1)] : Array (Nat × Nat))[i]?) := BT.mkS (places := #[(0, 1), (1, 1), (2, 43), (45, 1), (46, 1), (47, 1)]) Try.zeroValue100 Try.underlying100 (fun w => by simp [Try.sizeOf3, Try.sizeOf33, Try.sizeOf48, Try.sizeOf99])
theorem Try.fa101_0 : FA Try.prog 101 0 0 := FA.mk' Try.underlying101 rfl Try.sizeOf48 (by decide)
theorem Try.fa101_1 : FA Try.prog 101 1 1 := FA.mk' Try.underlying101 rfl Try.sizeOf3 (by decide)
theorem Try.fa101_2 : FA Try.prog 101 2 2 := FA.mk' Try.underlying101 rfl Try.sizeOf33 (by decide)
theorem Try.fa101_3 : FA Try.prog 101 3 45 := FA.mk' Try.underlying101 rfl Try.sizeOf3 (by decide)
theorem Try.fa101_4 : FA Try.prog 101 4 46 := FA.mk' Try.underlying101 rfl Try.sizeOf3 (by decide)
theorem Try.fa101_5 : FA Try.prog 101 5 47 := FA.mk' Try.underlying101 rfl Try.sizeOf99 (by decide)
theorem Try.BT101 : BT Try.prog 101 [.pointer none, .int .i64 0, .int .i64 0, .int .i64 0, .int .i64 0, .int .i64 0, .int .i64 0, .int .i64 0, .int .i64 0, .int .i64 0, .int .i64 0, .int .i64 0, .slice none 0 0, .int .i64 0, .int .i64 0, .int .i64 0, .int .i64 0, .int .i64 0, .int .i64 0, .int .i64 0, .int .i64 0, .int .i64 0, .int .i64 0, .int .i64 0, .int .i64 0, .int .i64 0, .int .i64 0, .int .i64 0, .int .i64 0, .int .i64 0, .int .i64 0, .int .i64 0, .int .i64 0, .int .i64 0, .int .i64 0, .int .i64 0, .int .i64 0, .int .i64 0, .int .i64 0, .int .i64 0, .int .i64 0, .int .i64 0, .int .i64 0, .int .i64 0, .int .i64 0, .int .i64 0, .int .i64 0, .map none] (fun i => (#[(0, 1), (1, 1), (2, 43), (45, 1), (46, 1), (47, 1)] : Array (Nat × Nat))[i]?) := BT.mkS (places := #[(0, 1), (1, 1), (2, 43), (45, 1), (46, 1), (47, 1)]) Try.zeroValue101 Try.underlying101 (fun w => by simp [Try.sizeOf3, Try.sizeOf33, Try.sizeOf48, Try.sizeOf99])
theorem Try.fa105_0 : FA Try.prog 105 0 0 := FA.mk' Try.underlying105 rfl Try.sizeOf3 (by decide)
theorem Try.fa105_1 : FA Try.prog 105 1 1 := FA.mk' Try.underlying105 rfl Try.sizeOf3 (by decide)
theorem Try.fa105_2 : FA Try.prog 105 2 2 := FA.mk' Try.underlying105 rfl Try.sizeOf9 (by decide)
theorem Try.fa105_3 : FA Try.prog 105 3 3 := FA.mk' Try.underlying105 rfl Try.sizeOf40 (by decide)
theorem Try.fa105_4 : FA Try.prog 105 4 12 := FA.mk' Try.underlying105 rfl Try.sizeOf33 (by decide)
theorem Try.fa105_5 : FA Try.prog 105 5 55 := FA.mk' Try.underlying105 rfl Try.sizeOf3 (by decide)
theorem Try.BT105 : BT Try.prog 105 [.int .i64 0, .int .i64 0, .string ⟨#[]⟩, .int .i64 0, .int .i64 0, .int .i64 0, .int .i64 0, .int .i64 0, .int .i64 0, .int .i64 0, .int .i64 0, .slice none 0 0, .int .i64 0, .int .i64 0, .int .i64 0, .int .i64 0, .int .i64 0, .int .i64 0, .int .i64 0, .int .i64 0, .int .i64 0, .int .i64 0, .slice none 0 0, .int .i64 0, .int .i64 0, .int .i64 0, .int .i64 0, .int .i64 0, .int .i64 0, .int .i64 0, .int .i64 0, .int .i64 0, .int .i64 0, .int .i64 0, .int .i64 0, .int .i64 0, .int .i64 0, .int .i64 0, .int .i64 0, .int .i64 0, .int .i64 0, .int .i64 0, .int .i64 0, .int .i64 0, .int .i64 0, .int .i64 0, .int .i64 0, .int .i64 0, .int .i64 0, .int .i64 0, .int .i64 0, .int .i64 0, .int .i64 0, .int .i64 0, .int .i64 0, .int .i64 0] (fun i => (#[(0, 1), (1, 1), (2, 1), (3, 9), (12, 43), (55, 1)] : Array (Nat × Nat))[i]?) := BT.mkS (places := #[(0, 1), (1, 1), (2, 1), (3, 9), (12, 43), (55, 1)]) Try.zeroValue105 Try.underlying105 (fun w => by simp [Try.sizeOf3, Try.sizeOf9, Try.sizeOf33, Try.sizeOf40])
theorem Try.fa106_0 : FA Try.prog 106 0 0 := FA.mk' Try.underlying106 rfl Try.sizeOf3 (by decide)
theorem Try.fa106_1 : FA Try.prog 106 1 1 := FA.mk' Try.underlying106 rfl Try.sizeOf3 (by decide)
theorem Try.fa106_2 : FA Try.prog 106 2 2 := FA.mk' Try.underlying106 rfl Try.sizeOf9 (by decide)
theorem Try.fa106_3 : FA Try.prog 106 3 3 := FA.mk' Try.underlying106 rfl Try.sizeOf40 (by decide)
theorem Try.fa106_4 : FA Try.prog 106 4 12 := FA.mk' Try.underlying106 rfl Try.sizeOf33 (by decide)
theorem Try.fa106_5 : FA Try.prog 106 5 55 := FA.mk' Try.underlying106 rfl Try.sizeOf3 (by decide)
theorem Try.BT106 : BT Try.prog 106 [.int .i64 0, .int .i64 0, .string ⟨#[]⟩, .int .i64 0, .int .i64 0, .int .i64 0, .int .i64 0, .int .i64 0, .int .i64 0, .int .i64 0, .int .i64 0, .slice none 0 0, .int .i64 0, .int .i64 0, .int .i64 0, .int .i64 0, .int .i64 0, .int .i64 0, .int .i64 0, .int .i64 0, .int .i64 0, .int .i64 0, .slice none 0 0, .int .i64 0, .int .i64 0, .int .i64 0, .int .i64 0, .int .i64 0, .int .i64 0, .int .i64 0, .int .i64 0, .int .i64 0, .int .i64 0, .int .i64 0, .int .i64 0, .int .i64 0, .int .i64 0, .int .i64 0, .int .i64 0, .int .i64 0, .int .i64 0, .int .i64 0, .int .i64 0, .int .i64 0, .int .i64 0, .int .i64 0, .int .i64 0, .int .i64 0, .int .i64 0, .int .i64 0, .int .i64 0, .int .i64 0, .int .i64 0, .int .i64 0, .int .i64 0, .int .i64 0] (fun i => (#[(0, 1), (1, 1), (2, 1), (3, 9), (12, 43), (55, 1)] : Array (Nat × Nat))[i]?) := BT.mkS (places := #[(0, 1), (1, 1), (2, 1), (3, 9), (12, 43), (55, 1)]) Try.zeroValue106 Try.underlying106 (fun w => by simp [Try.sizeOf3, Try.sizeOf9, Try.sizeOf33, Try.sizeOf40])
theorem Try.fa107_0 : FA Try.prog 107 0 0 := FA.mk' Try.underlying107 rfl Try.sizeOf103 (by decide)
theorem Try.fa107_1 : FA Try.prog 107 1 1 := FA.mk' Try.underlying107 rfl Try.sizeOf3 (by decide)
theorem Try.fa107_2 : FA Try.prog 107 2 2 := FA.mk' Try.underlying107 rfl Try.sizeOf3 (by decide)
theorem Try.BT107 : BT Try.prog 107 [.slice none 0 0, .int .i64 0, .int .i64 0] (fun i => (#[(0, 1), (1, 1), (2, 1)] : Array (Nat × Nat))[i]?) := BT.mkS (places := #[(0, 1), (1, 1), (2, 1)]) Try.zeroValue107 Try.underlying107 (fun w => by simp [Try.sizeOf3, Try.sizeOf103])
theorem Try.fa108_0 : FA Try.prog 108 0 0 := FA.mk' Try.underlying108 rfl Try.sizeOf103 (by decide)
theorem Try.fa108_1 : FA Try.prog 108 1 1 := FA.mk' Try.underlying108 rfl Try.sizeOf3 (by decide)
theorem Try.fa108_2 : FA Try.prog 108 2 2 := FA.mk' Try.underlying108 rfl Try.sizeOf3 (by decide)
theorem Try.BT108 : BT Try.prog 108 [.slice none 0 0, .int .i64 0, .int .i64 0] (fun i => (#[(0, 1), (1, 1), (2, 1)] : Array (Nat × Nat))[i]?) := BT.mkS (places := #[(0, 1), (1, 1), (2, 1)]) Try.zeroValue108 Try.underlying108 (fun w => by simp [Try.sizeOf3, Try.sizeOf103])
theorem Try.fa117_0 : FA Try.prog 117 0 0 := FA.mk' Try.underlying117 rfl Try.sizeOf116 (by decide)
theorem Try.BT117 : BT Try.prog 117 [.map none] (fun i => (#[(0, 1)] : Array (Nat × Nat))[i]?) := BT.mkS (places := #[(0, 1)]) Try.zeroValue117 Try.underlying117 (fun w => by simp [Try.sizeOf116])
theorem Try.fa118_0 : FA Try.prog 118 0 0 := FA.mk' Try.underlying118 rfl Try.sizeOf116 (by decide)
theorem Try.BT118 : BT Try.prog 118 [.map none] (fun i => (#[(0, 1)] : Array (Nat × Nat))[i]?) := BT.mkS (places := #[(0, 1)]) Try.zeroValue118 Try.underlying118 (fun w => by simp [Try.sizeOf116])
theorem Try.fa124_0 : FA Try.prog 124 0 0 := FA.mk' Try.underlying124 rfl Try.sizeOf80 (by decide)
theorem Try.fa124_1 : FA Try.prog 124 1 3 := FA.mk' Try.underlying124 rfl Try.sizeOf37 (by decide)
theorem Try.BT124 : BT Try.prog 124 [.int .i64 0, .int .i64 0, .string ⟨#[]⟩, .int .i64 0, .int .i64 0, .int .i64 0, .int .i64 0, .int .i64 0, .int .i64 0, .int .i64 0, .int .i64 0] (fun i => (#[(0, 3), (3, 8)] : Array (Nat × Nat))[i]?) := BT.mkS (places := #[(0, 3), (3, 8)]) Try.zeroValue124 Try.underlying124 (fun w => by simp [Try.sizeOf37, Try.sizeOf80])
theorem Try.fa125_0 : FA Try.prog 125 0 0 := FA.mk' Try.underlying125 rfl Try.sizeOf80 (by decide)
theorem Try.fa125_1 : FA Try.prog 125 1 3 := FA.mk' Try.underlying125 rfl Try.sizeOf37 (by decide)
theorem Try.BT125 : BT Try.prog 125 [.int .i64 0, .int .i64 0, .string ⟨#[]⟩, .int .i64 0, .int .i64 0, .int .i64 0, .int .i64 0, .int .i64 0, .int .i64 0, .int .i64 0, .int .i64 0] (fun i => (#[(0, 3), (3, 8)] : Array (Nat × Nat))[i]?) := BT.mkS (places := #[(0, 3), (3, 8)]) Try.zeroValue125 Try.underlying125 (fun w => by simp [Try.sizeOf37, Try.sizeOf80])
theorem Try.fa126_0 : FA Try.prog 126 0 0 := FA.mk' Try.underlying126 rfl Try.sizeOf9 (by decide)
theorem Try.fa126_1 : FA Try.prog 126 1 1 := FA.mk' Try.underlying126 rfl Try.sizeOf37 (by decide)
theorem Try.fa126_2 : FA Try.prog 126 2 9 := FA.mk' Try.underlying126 rfl Try.sizeOf80 (by decide)
theorem Try.BT126 : BT Try.prog 126 [.string ⟨#[]⟩, .int .i64 0, .int .i64 0, .int .i64 0, .int .i64 0, .int .i64 0, .int .i64 0, .int .i64 0, .int .i64 0, .int .i64 0, .int .i64 0, .string ⟨#[]⟩] (fun i => (#[(0, 1), (1, 8), (9, 3)] : Array (Nat × Nat))[i]?) := BT.mkS (places := #[(0, 1), (1, 8), (9, 3)]) Try.zeroValue126 Try.underlying126 (fun w => by simp [Try.sizeOf9, Try.sizeOf37, Try.sizeOf80])
theorem Try.fa127_0 : FA Try.prog 127 0 0 := FA.mk' Try.underlying127 rfl Try.sizeOf9 (by decide)
theorem Try.fa127_1 : FA Try.prog 127 1 1 := FA.mk' Try.underlying127 rfl Try.sizeOf37 (by decide)
theorem Try.fa127_2 : FA Try.prog 127 2 9 := FA.mk' Try.underlying127 rfl Try.sizeOf80 (by decide)
theorem Try.BT127 : BT Try.prog 127 [.string ⟨#[]⟩, .int .i64 0, .int .i64 0, .int .i64 0, .int .i64 0, .int .i64 0, .int .i64 0, .int .i64 0, .int .i64 0, .int .i64 0, .int .i64 0, .string ⟨#[]⟩] (fun i => (#[(0, 1), (1, 8), (9, 3)] : Array (Nat × Nat))[i]?) := BT.mkS (places := #[(0, 1), (1, 8), (9, 3)]) Try.zeroValue127 Try.underlying127 (fun w => by simp [Try.sizeOf9, Try.sizeOf37, Try.sizeOf80])
theorem Try.fa210_0 : FA Try.prog 210 0 0 := FA.mk' Try.underlying210 rfl Try.sizeOf17 (by decide)
theorem Try.fa210_1 : FA Try.prog 210 1 1 := FA.mk' Try.underlying210 rfl Try.sizeOf17 (by decide)
theorem Try.fa210_2 : FA Try.prog 210 2 2 := FA.mk' Try.underlying210 rfl Try.sizeOf17 (by decide)
theorem Try.fa210_3 : FA Try.prog 210 3 3 := FA.mk' Try.underlying210 rfl Try.sizeOf9 (by decide)
theorem Try.BT210 : BT Try.prog 210 [.pointer none, .pointer none, .pointer none, .string ⟨#[]⟩] (fun i => (#[(0, 1), (1, 1), (2, 1), (3, 1)] : Array (Nat × Nat))[i]?) := BT.mkS (places := #[(0, 1), (1, 1), (2, 1), (3, 1)]) Try.zeroValue210 Try.underlying210 (fun w => by simp [Try.sizeOf9, Try.sizeOf17])
theorem Try.fa211_0 : FA Try.prog 211 0 0 := FA.mk' Try.underlying211 rfl Try.sizeOf17 (by decide)
theorem Try.fa211_1 : FA Try.prog 211 1 1 := FA.mk' Try.underlying211 rfl Try.sizeOf17 (by decide)
theorem Try.fa211_2 : FA Try.prog 211 2 2 := FA.mk' Try.underlying211 rfl Try.sizeOf17 (by decide)
theorem Try.fa211_3 : FA Try.prog 211 3 3 := FA.mk' Try.underlying211 rfl Try.sizeOf9 (by decide)
theorem Try.BT211 : BT Try.prog 211 [.pointer none, .pointer none, .pointer none, .string ⟨#[]⟩] (fun i => (#[(0, 1), (1, 1), (2, 1), (3, 1)] : Array (Nat × Nat))[i]?) := BT.mkS (places := #[(0, 1), (1, 1), (2, 1), (3, 1)]) Try.zeroValue211 Try.underlying211 (fun w => by simp [Try.sizeOf9, Try.sizeOf17])
theorem Try.fa221_0 : FA Try.prog 221 0 0 := FA.mk' Try.underlying221 rfl Try.sizeOf12 (by decide)
theorem Try.fa221_1 : FA Try.prog 221 1 1 := FA.mk' Try.underlying221 rfl Try.sizeOf12 (by decide)
theorem Try.fa221_2 : FA Try.prog 221 2 2 := FA.mk' Try.underlying221 rfl Try.sizeOf180 (by decide)
theorem Try.fa221_3 : FA Try.prog 221 3 3 := FA.mk' Try.underlying221 rfl Try.sizeOf215 (by decide)
theorem Try.fa221_4 : FA Try.prog 221 4 4 := FA.mk' Try.underlying221 rfl Try.sizeOf5 (by decide)
theorem Try.fa221_5 : FA Try.prog 221 5 5 := FA.mk' Try.underlying221 rfl Try.sizeOf5 (by decide)
theorem Try.fa221_6 : FA Try.prog 221 6 6 := FA.mk' Try.underlying221 rfl Try.sizeOf216 (by decide)
theorem Try.fa221_7 : FA Try.prog 221 7 7 := FA.mk' Try.underlying221 rfl Try.sizeOf217 (by decide)
theorem Try.fa221_8 : FA Try.prog 221 8 8 := FA.mk' Try.underlying221 rfl Try.sizeOf218 (by decide)
theorem Try.fa221_9 : FA Try.prog 221 9 9 := FA.mk' Try.underlying221 rfl Try.sizeOf219 (by decide)
theorem Try.fa221_10 : FA Try.prog 221 10 10 := FA.mk' Try.underlying221 rfl Try.sizeOf220 (by decide)
theorem Try.BT221 : BT Try.prog 221 [.int .u64 0, .int .u64 0, .int .u32 0, .int .u8 0, .int .u8 0, .int .u8 0, .int .u8 0, .nilFunc, .pointer none, .int .i32 0, .int .i32 0] (fun i => (#[(0, 1), (1, 1), (2, 1), (3, 1), (4, 1), (5, 1), (6, 1), (7, 1), (8, 1), (9, 1), (10, 1)] : Array (Nat × Nat))[i]?) := BT.mkS (places := #[(0, 1), (1, 1), (2, 1), (3, 1), (4, 1), (5, 1), (6, 1), (7, 1), (8, 1), (9, 1), (10, 1)]) Try.zeroValue221 Try.underlying221 (fun w => by simp [Try.sizeOf5, Try.sizeOf12, Try.sizeOf180, Try.sizeOf215, Try.sizeOf216, Try.sizeOf217, Try.sizeOf218, Try.sizeOf219, Try.sizeOf220])
theorem Try.fa222_0 : FA Try.prog 222 0 0 := FA.mk' Try.underlying222 rfl Try.sizeOf12 (by decide)
theorem Try.fa222_1 : FA Try.prog 222 1 1 := FA.mk' Try.underlying222 rfl Try.sizeOf12 (by decide)
theorem Try.fa222_2 : FA Try.prog 222 2 2 := FA.mk' Try.underlying222 rfl Try.sizeOf180 (by decide)
theorem Try.fa222_3 : FA Try.prog 222 3 3 := FA.mk' Try.underlying222 rfl Try.sizeOf215 (by decide)
theorem Try.fa222_4 : FA Try.prog 222 4 4 := FA.mk' Try.underlying222 rfl Try.sizeOf5 (by decide)
theorem Try.fa222_5 : FA Try.prog 222 5 5 := FA.mk' Try.underlying222 rfl Try.sizeOf5 (by decide)
theorem Try.fa222_6 : FA Try.prog 222 6 6 := FA.mk' Try.underlying222 rfl Try.sizeOf216 (by decide)
theorem Try.fa222_7 : FA Try.prog 222 7 7 := FA.mk' Try.underlying222 rfl Try.sizeOf217 (by decide)
theorem Try.fa222_8 : FA Try.prog 222 8 8 := FA.mk' Try.underlying222 rfl Try.sizeOf218 (by decide)
theorem Try.fa222_9 : FA Try.prog 222 9 9 := FA.mk' Try.underlying222 rfl Try.sizeOf219 (by decide)
theorem Try.fa222_10 : FA Try.prog 222 10 10 := FA.mk' Try.underlying222 rfl Try.sizeOf220 (by decide)
theorem Try.BT222 : BT Try.prog 222 [.int .u64 0, .int .u64 0, .int .u32 0, .int .u8 0, .int .u8 0, .int .u8 0, .int .u8 0, .nilFunc, .pointer none, .int .i32 0, .int .i32 0] (fun i => (#[(0, 1), (1, 1), (2, 1), (3, 1), (4, 1), (5, 1), (6, 1), (7, 1), (8, 1), (9, 1), (10, 1)] : Array (Nat × Nat))[i]?) := BT.mkS (places := #[(0, 1), (1, 1), (2, 1), (3, 1), (4, 1), (5, 1), (6, 1), (7, 1), (8, 1), (9, 1), (10, 1)]) Try.zeroValue222 Try.underlying222 (fun w => by simp [Try.sizeOf5, Try.sizeOf12, Try.sizeOf180, Try.sizeOf215, Try.sizeOf216, Try.sizeOf217, Try.sizeOf218, Try.sizeOf219, Try.sizeOf220])
theorem Try.fa223_0 : FA Try.prog 223 0 0 := FA.mk' Try.underlying223 rfl Try.sizeOf3 (by decide)
theorem Try.fa223_1 : FA Try.prog 223 1 1 := FA.mk' Try.underlying223 rfl Try.sizeOf3 (by decide)
theorem Try.fa223_2 : FA Try.prog 223 2 2 := FA.mk' Try.underlying223 rfl Try.sizeOf3 (by decide)
theorem Try.BT223 : BT Try.prog 223 [.int .i64 0, .int .i64 0, .int .i64 0] (fun i => (#[(0, 1), (1, 1), (2, 1)] : Array (Nat × Nat))[i]?) := BT.mkS (places := #[(0, 1), (1, 1), (2, 1)]) Try.zeroValue223 Try.underlying223 (fun w => by simp [Try.sizeOf3])
theorem Try.fa224_0 : FA Try.prog 224 0 0 := FA.mk' Try.underlying224 rfl Try.sizeOf3 (by decide)
theorem Try.fa224_1 : FA Try.prog 224 1 1 := FA.mk' Try.underlying224 rfl Try.sizeOf3 (by decide)
theorem Try.fa224_2 : FA Try.prog 224 2 2 := FA.mk' Try.underlying224 rfl Try.sizeOf3 (by decide)
theorem Try.BT224 : BT Try.prog 224 [.int .i64 0, .int .i64 0, .int .i64 0] (fun i => (#[(0, 1), (1, 1), (2, 1)] : Array (Nat × Nat))[i]?) := BT.mkS (places := #[(0, 1), (1, 1), (2, 1)]) Try.zeroValue224 Try.underlying224 (fun w => by simp [Try.sizeOf3])
theorem Try.inf3 : Try.prog.info? 3 = some Try.t3 := by kernel_rfl
theorem Try.inf5 : Try.prog.info? 5 = some Try.t5 := by kernel_rfl
theorem Try.inf9 : Try.prog.info? 9 = some Try.t9 := by kernel_rfl
theorem Try.inf30 : Try.prog.info? 30 = some Try.t30 := by kernel_rfl
theorem Try.inf40 : Try.prog.info? 40 = some Try.t40 := by kernel_rfl
theorem Try.inf69 : Try.prog.info? 69 = some Try.t69 := by kernel_rfl
theorem Try.inf80 : Try.prog.info? 80 = some Try.t80 := by kernel_rfl
theorem Try.inf106 : Try.prog.info? 106 = some Try.t106 := by kernel_rfl
theorem Try.inf125 : Try.prog.info? 125 = some Try.t125 := by kernel_rfl
theorem Try.inf127 : Try.prog.info? 127 = some Try.t127 := by kernel_rfl
theorem Try.inf224 : Try.prog.info? 224 = some Try.t224 := by kernel_rfl
end Go.Proofs.Ytofmaoickidjcaa
